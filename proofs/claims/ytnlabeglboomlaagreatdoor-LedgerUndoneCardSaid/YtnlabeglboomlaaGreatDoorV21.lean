/- A part of a proof; the last text of this claim says of what. -/
import Derived.Test.YtnlabeglboomlaaGreatDoorV20
set_option linter.unusedVariables false
set_option linter.unusedSimpArgs false
set_option linter.unusedSectionVars false
namespace Go.Sx
open Go Go.RowKit Go.Shelf Go.Proofs
section
variable {P : Program} {G : World → Prop} {T : Tab} {ζ : Fr} {N : Nat} {own own' : Nat → Nat} {e : Env} {h h' : Hp} {a : Act} {w w' : World} {o : Oper} {v : SV} {X : Hint} {next : Act → World → Prop} {Q : Exit → Act → World → Prop}
theorem Bk.lt {b : Nat} (hb : Bk ζ own h w b) : b < w.heap.size := hb.2.1
theorem R.newBk (r : R ζ N own e h a w) {b : Nat} (h1 : w.heap.size ≤ b) (h2 : b < w'.heap.size) : Bk ζ own h w' b := by
  refine ⟨.inr (Nat.le_trans r.below.size h1), h2, fun nm hn => ?_, fun nm hn e1 => ?_, fun e1 => ?_⟩
  · have := r.own_lt hn; omega
  · have := r.row_lt hn e1; omega
  · have := r.obl _ e1; have := r.below.size; omega
theorem mcall_wp (r : R ζ N own e h a w) (hG : ∀ w', ζ.w.grownBy w' ζ.ob → G w') (c : Call) (f : Operand) (ho : o.op = .call c) (hc : c.callee = .value f) {g : FuncId} {x : Operand} {xs : List Operand} {nm : Nat} {q q' : RowE} {args : List PV} {y : PV}
    (hf : evO e f = .p (.clo g [] [])) (hl : c.args.toList = x :: xs) (hx : evO e x = .orow nm) (hq : ζ.ρ nm = some q) (ha : evPs e xs = some args) (hm : MeetsM P G g q q' args y)
    (hk : ∀ rv' own' x w', R (ζ.rows (upd ζ.ρ nm (some q')) rv') N own' e h a w' → RepS (ζ.rows (upd ζ.ρ nm (some q')) rv') own' h w' (.p y) x → next (a.put o.dst x) w') : o.wp P a w next Q := by
  have e1 := ev_p r hf
  simp only [RepP, RepL] at e1
  obtain ⟨us, vs, e1, rfl, rfl⟩ := e1
  obtain ⟨hne, e2⟩ := ev_orow r hx
  obtain ⟨us, g1, g2, g3⟩ := r.row nm q hq
  have h1 := evPs_rep r _ _ ha
  have hrun : (execOp a.eval o).run P w = .ok (.enter g ⟨ζ.rv nm :: xs.map a.eval⟩) w := by
    have e4 := hm.ent ⟨ζ.rv nm :: xs.map a.eval⟩ w
    have e3 : (#[] : Array Value) ++ c.args.map a.eval ++ #[] = ⟨ζ.rv nm :: xs.map a.eval⟩ := by apply Array.toList_inj.1; simp [hl, e2]
    simp only [execOp, ho, resolve, hc, e1, Deferred.ofValue, Sem.run_bind, Sem.run_pure, Result.andThen_ok, invoke, e3]
    simpa using e4
  unfold Oper.wp
  rw [hrun, Oper.upon_enter]
  have hG' : ∀ w', w.grownBy w' (ζ.rv nm).ownBlock → G w' := by
    intro w' hg
    refine hG w' (grownBy_trans r.below hg fun k hk1 => ?_)
    split at g3
    · rw [g3] at hk1; exact .inl hk1
    · exact .inr (g3 k hk1)
  refine (hm.calls (Bk ζ own h w) (ζ.rv nm) _ us w (fun b hb => ⟨hb.lt, hb.2.2.2.1 nm hne⟩) g1 g2 h1 hG').mono ?_
  rintro en w' ⟨x', us', rfl, j1, j2, j3, j4, j5⟩
  have hblk : (∃ q0, ζ.ρ nm = some q0 ∧ (ζ.rv nm).ownBlock = (ζ.rv nm).ownBlock ∧ q'.par = q0.par ∧ (q'.par = true → ζ.rv nm = ζ.rv nm)) ∨ (q'.par = false ∧ ∀ k, (ζ.rv nm).ownBlock = some k → w.heap.size ≤ k) := .inl ⟨q, hq, rfl, j5, fun _ => rfl⟩
  have hB := r.rowBk j2 (nm := nm) (.inr ⟨hne, rfl⟩) (q := q') (v := ζ.rv nm) hblk
  have hB' : ∀ b, ((Bk ζ own h w b ∨ w.heap.size ≤ b) ∧ b < w'.heap.size ∧ (ζ.rv nm).ownBlock ≠ some b) → Bk (ζ.rows (upd ζ.ρ nm (some q')) (upd ζ.rv nm (ζ.rv nm))) own h w' b ∧ w'.heap[b]? = w'.heap[b]? := by
    intro b ⟨k1, k2, k3⟩
    refine ⟨?_, rfl⟩
    rcases k1 with k1 | k1
    · exact (hB b k1).1
    · have := r.newBk (w' := w') k1 k2
      refine ⟨this.1, this.2.1, this.2.2.1, fun m hm => ?_, this.2.2.2.2⟩
      show (upd ζ.rv nm (ζ.rv nm) m).ownBlock ≠ some b
      by_cases hmn : m = nm
      · subst hmn; rw [upd_same]; exact k3
      · rw [upd_ne _ _ hmn]
        have hm : upd ζ.ρ nm (some q') m ≠ none := hm
        rw [upd_ne _ _ hmn] at hm
        exact this.2.2.2.1 m hm
  refine hk (upd ζ.rv nm (ζ.rv nm)) own x' w' (r.rowSet j2 (.inr ⟨hne, rfl⟩) (vs := us') j3 (RepL.mono hB' _ _ j4) hblk (fun t => .inr ⟨rfl, .inr ⟨hne, rfl⟩⟩)) ?_
  exact RepP.mono hB' _ _ j1
theorem tcall_wp (r : R ζ N own e h a w) (hG : ∀ w', ζ.w.grownBy w' ζ.ob → G w') (c : Call) (f : Operand) (ho : o.op = .call c) (hc : c.callee = .value f) {g : FuncId} {x : Operand} {xs : List Operand} {nm : Nat} {q q' : RowE} {args : List PV}
    (hf : evO e f = .p (.clo g [] [])) (hl : c.args.toList = x :: xs) (hx : evO e x = .orow nm) (hq : ζ.ρ nm = some q) (ha : evPs e xs = some args) (hp : q.par = false) (hm : MeetsT P G g q q' args) (hp' : q'.par = false)
    (hk : ∀ rv' own' x w', R (ζ.rows (upd ζ.ρ nm (some q')) rv') N own' (killE nm e) h a w' → RepS (ζ.rows (upd ζ.ρ nm (some q')) rv') own' h w' (.orow nm) x → next (a.put o.dst x) w') : o.wp P a w next Q := by
  have e1 := ev_p r hf
  simp only [RepP, RepL] at e1
  obtain ⟨us, vs, e1, rfl, rfl⟩ := e1
  obtain ⟨hne, e2⟩ := ev_orow r hx
  obtain ⟨us, g1, g2, g3⟩ := r.row nm q hq
  have h1 := evPs_rep r _ _ ha
  have hrun : (execOp a.eval o).run P w = .ok (.enter g ⟨ζ.rv nm :: xs.map a.eval⟩) w := by
    have e4 := hm.ent ⟨ζ.rv nm :: xs.map a.eval⟩ w
    have e3 : (#[] : Array Value) ++ c.args.map a.eval ++ #[] = ⟨ζ.rv nm :: xs.map a.eval⟩ := by apply Array.toList_inj.1; simp [hl, e2]
    simp only [execOp, ho, resolve, hc, e1, Deferred.ofValue, Sem.run_bind, Sem.run_pure, Result.andThen_ok, invoke, e3]
    simpa using e4
  unfold Oper.wp
  rw [hrun, Oper.upon_enter]
  rw [hp] at g3
  have hG' : ∀ w', w.grownBy w' (ζ.rv nm).ownBlock → G w' := fun w' hg => hG w' (grownBy_trans r.below hg fun k hk1 => .inr (g3 k hk1))
  refine (hm.calls (Bk ζ own h w) (ζ.rv nm) _ us w (fun b hb => ⟨hb.lt, hb.2.2.2.1 nm hne⟩) g1 g2 h1 hG').mono ?_
  rintro en w' ⟨x', us', rfl, j2, j3, j4, j5⟩
  have hblk : (∃ q0, ζ.ρ nm = some q0 ∧ x'.ownBlock = (ζ.rv nm).ownBlock ∧ q'.par = q0.par ∧ (q'.par = true → x' = ζ.rv nm)) ∨ (q'.par = false ∧ ∀ k, x'.ownBlock = some k → w.heap.size ≤ k) := .inl ⟨q, hq, j5, by rw [hp, hp'], fun h => by rw [hp'] at h; cases h⟩
  have hB := r.rowBk j2 (nm := nm) (.inr ⟨hne, rfl⟩) (q := q') (v := x') hblk
  have hB' : ∀ b, ((Bk ζ own h w b ∨ w.heap.size ≤ b) ∧ b < w'.heap.size ∧ (ζ.rv nm).ownBlock ≠ some b) → Bk (ζ.rows (upd ζ.ρ nm (some q')) (upd ζ.rv nm x')) own h w' b ∧ w'.heap[b]? = w'.heap[b]? := by
    intro b ⟨k1, k2, k3⟩
    refine ⟨?_, rfl⟩
    rcases k1 with k1 | k1
    · exact (hB b k1).1
    · have := r.newBk (w' := w') k1 k2
      refine ⟨this.1, this.2.1, this.2.2.1, fun m hm => ?_, this.2.2.2.2⟩
      show (upd ζ.rv nm x' m).ownBlock ≠ some b
      by_cases hmn : m = nm
      · subst hmn; rw [upd_same, j5]; exact k3
      · rw [upd_ne _ _ hmn]
        have hm : upd ζ.ρ nm (some q') m ≠ none := hm
        rw [upd_ne _ _ hmn] at hm
        exact this.2.2.2.1 m hm
  refine hk (upd ζ.rv nm x') own x' w' (r.rowSet j2 (.inr ⟨hne, rfl⟩) (vs := us') j3 (RepL.mono hB' _ _ j4) hblk ?_) ?_
  · intro t
    unfold killE
    cases hs : e t with
    | orow m => by_cases hm : m = nm <;> simp [killS, hm]
    | rowp m off => by_cases hm : m = nm <;> simp [killS, hm]
    | _ => exact .inr ⟨rfl, .inl rfl⟩
  · refine ⟨?_, ?_⟩
    · show upd ζ.ρ nm (some q') nm ≠ none
      rw [upd_same]; simp
    · show _ = upd ζ.rv nm x' nm
      rw [upd_same]
theorem fcall_wp (r : R ζ N own e h a w) (hG : ∀ w', ζ.w.grownBy w' ζ.ob → G w') (c : Call) (f : Operand) (ho : o.op = .call c) (hc : c.callee = .value f) {g : FuncId} {args : List PV} {nm : Nat} {q : RowE}
    (hf : evO e f = .p (.clo g [] [])) (ha : evPs e c.args.toList = some args) (hn : ζ.ρ nm = none) (hm : MeetsR P G g args q) (hp : q.par = false)
    (hk : ∀ rv' own' x w', R (ζ.rows (upd ζ.ρ nm (some q)) rv') N own' e h a w' → RepS (ζ.rows (upd ζ.ρ nm (some q)) rv') own' h w' (.orow nm) x → next (a.put o.dst x) w') : o.wp P a w next Q := by
  have e1 := ev_p r hf
  simp only [RepP, RepL] at e1
  obtain ⟨us, vs, e1, rfl, rfl⟩ := e1
  have h1 := evPs_rep r _ _ ha
  have hrun : (execOp a.eval o).run P w = .ok (.enter g ⟨c.args.toList.map a.eval⟩) w := by
    have e4 := hm.ent ⟨c.args.toList.map a.eval⟩ w
    have e3 : (#[] : Array Value) ++ c.args.map a.eval ++ #[] = ⟨c.args.toList.map a.eval⟩ := by apply Array.toList_inj.1; simp
    simp only [execOp, ho, resolve, hc, e1, Deferred.ofValue, Sem.run_bind, Sem.run_pure, Result.andThen_ok, invoke, e3]
    simpa using e4
  unfold Oper.wp
  rw [hrun, Oper.upon_enter]
  refine (hm.calls (Bk ζ own h w) _ w (fun b hb => hb.lt) h1 (hG w r.below)).mono ?_
  rintro en w' ⟨x', us', rfl, j2, j3, j4, j5⟩
  have hg : w.grownBy w' none := grownBy_below j2 (Nat.le_refl _) none
  have hblk : (∃ q0, ζ.ρ nm = some q0 ∧ x'.ownBlock = (ζ.rv nm).ownBlock ∧ q.par = q0.par ∧ (q.par = true → x' = ζ.rv nm)) ∨ (q.par = false ∧ ∀ k, x'.ownBlock = some k → w.heap.size ≤ k) := .inr ⟨hp, j5⟩
  have hB := r.rowBk hg (nm := nm) (.inl rfl) (q := q) (v := x') hblk
  have hB' : ∀ b, ((Bk ζ own h w b ∨ w.heap.size ≤ b) ∧ b < w'.heap.size ∧ x'.ownBlock ≠ some b) → Bk (ζ.rows (upd ζ.ρ nm (some q)) (upd ζ.rv nm x')) own h w' b ∧ w'.heap[b]? = w'.heap[b]? := by
    intro b ⟨k1, k2, k3⟩
    refine ⟨?_, rfl⟩
    rcases k1 with k1 | k1
    · exact (hB b k1).1
    · have := r.newBk (w' := w') k1 k2
      refine ⟨this.1, this.2.1, this.2.2.1, fun m hm => ?_, this.2.2.2.2⟩
      show (upd ζ.rv nm x' m).ownBlock ≠ some b
      by_cases hmn : m = nm
      · subst hmn; rw [upd_same]; exact k3
      · rw [upd_ne _ _ hmn]
        have hm : upd ζ.ρ nm (some q) m ≠ none := hm
        rw [upd_ne _ _ hmn] at hm
        exact this.2.2.2.1 m hm
  refine hk (upd ζ.rv nm x') own x' w' (r.rowSet hg (.inl rfl) (vs := us') j3 (RepL.mono hB' _ _ j4) hblk ?_) ?_
  · intro t
    refine .inr ⟨rfl, .inl ?_⟩
    have ht := r.tmp t
    cases hs : e t with
    | orow m =>
      rw [hs] at ht
      have : m ≠ nm := fun h => ht.1 (h ▸ hn)
      simp [killS, this]
    | rowp m off =>
      rw [hs] at ht
      have : m ≠ nm := fun h => ht.1 (h ▸ hn)
      simp [killS, this]
    | _ => rfl
  · refine ⟨?_, ?_⟩
    · show upd ζ.ρ nm (some q) nm ≠ none
      rw [upd_same]; simp
    · show _ = upd ζ.rv nm x' nm
      rw [upd_same]
theorem fl_sl {B : Nat → Prop} {n : Nat} {cs : List PV} {v : Value} (h : RepP B w (.fl n cs) v) : RepP B w (.sl n cs) v := by
  simp only [RepP] at h ⊢
  obtain ⟨a, rfl, h0, hr⟩ := h
  exact ⟨a, n, rfl, Nat.le_refl _, h0, hr⟩
theorem evB_rep (r : R ζ N own e h a w) : ∀ (xs : List Operand) (ps : List PV), evB ζ.ρ e xs = some ps → RepL (fun b => b < w.heap.size) w ps (xs.map a.eval)
  | [], ps, hp => by simp only [evB, Option.some.injEq] at hp; subst hp; simp [RepL]
  | x :: xs, ps, hp => by
    simp only [evB] at hp
    split at hp
    · rename_i y ys hy hys
      cases hp
      simp only [RepL, List.map_cons]
      refine ⟨_, _, rfl, ?_, evB_rep r xs ys hys⟩
      unfold evBP at hy
      split at hy
      · rename_i n cs hz
        cases hy
        exact RepP.mono (fun b hb => ⟨hb.lt, rfl⟩) _ _ (fl_sl (ev_p r hz))
      · rename_i z _ hz
        cases hy
        exact RepP.mono (fun b hb => ⟨hb.lt, rfl⟩) _ _ (ev_p r hz)
      · rename_i nm hz
        split at hy
        · rename_i q hq
          cases hy
          obtain ⟨hne, e2⟩ := ev_orow r hz
          obtain ⟨us, g1, g2, g3⟩ := r.row nm q hq
          rw [e2]
          exact ownsRow_slice g1 (RepL.mono (fun b hb => ⟨hb.lt, rfl⟩) _ _ g2) (fun g hg => r.row_lt hne hg)
        · cases hy
      · cases hy
    · cases hp
theorem evBF_rep (r : R ζ N own e h a w) (xs : List Operand) (ps : List PV) (hp : evBF ζ.ρ e xs = some ps) : RepL (fun b => b < w.heap.size) w ps (xs.map a.eval) := by
  have go : ∀ {n : Nat} {cs : List PV} {x : Operand} {xs : List Operand}, RepP (fun b => b < w.heap.size) w (.fl n cs) (a.eval x) → evsFK n cs (evB ζ.ρ e xs) = some ps → RepL (fun b => b < w.heap.size) w ps ((x :: xs).map a.eval) := by
    intro n cs x xs hx hp
    unfold evsFK at hp
    split at hp
    · rename_i ys hys
      cases hp
      simp only [RepL, List.map_cons]
      exact ⟨_, _, rfl, hx, evB_rep r xs ys hys⟩
    · cases hp
  unfold evBF at hp
  split at hp
  · refine go ?_ hp
    simp only [RepP, Act.eval]
    exact ⟨none, rfl, .inl trivial, .inl trivial⟩
  · rename_i t xs
    unfold evFT at hp
    split at hp
    · rename_i n cs hs
      exact go (RepP.mono (fun b hb => ⟨hb.lt, rfl⟩) _ _ (ev_p r (x := .tmp t) hs)) hp
    · exact evB_rep r _ ps hp
  · exact evB_rep r _ ps hp
theorem wk_rep {B B' : Nat → Prop} {y : PV} {x : Value} (hr : RepP B w y x) : RepP B' w (wkP y) x := by
  cases y with
  | val u => simpa only [wkP, RepP] using hr
  | sl n cs =>
    simp only [RepP] at hr
    obtain ⟨ad, c, e1, h1, h2, _⟩ := hr
    simp only [wkP, RepP]
    exact ⟨ad, c, e1, h1, h2, .inl trivial⟩
  | _ => simp only [wkP, RepP]
theorem borrow_wp (r : R ζ N own e h a w) (hG : ∀ w', ζ.w.grownBy w' ζ.ob → G w') (c : Call) (f : Operand) (ho : o.op = .call c) (hc : c.callee = .value f) {g : FuncId} {args : List PV} {y : PV}
    (hf : evO e f = .p (.clo g [] [])) (ha : evBF ζ.ρ e c.args.toList = some args) (hm : Meets P G g args y) (hk : ∀ own' x w', R ζ N own' e h a w' → RepS ζ own' h w' (.p (wkP y)) x → next (a.put o.dst x) w') : o.wp P a w next Q := by
  have e1 := ev_p r hf
  simp only [RepP, RepL] at e1
  obtain ⟨us, vs, e1, rfl, rfl⟩ := e1
  have h1 := evBF_rep r _ _ ha
  have hrun : (execOp a.eval o).run P w = .ok (.enter g ⟨c.args.toList.map a.eval⟩) w := by
    have e4 := hm.ent ⟨c.args.toList.map a.eval⟩ w
    have e3 : (#[] : Array Value) ++ c.args.map a.eval ++ #[] = ⟨c.args.toList.map a.eval⟩ := by apply Array.toList_inj.1; simp
    simp only [execOp, ho, resolve, hc, e1, Deferred.ofValue, Sem.run_bind, Sem.run_pure, Result.andThen_ok, invoke, e3]
    simpa using e4
  unfold Oper.wp
  rw [hrun, Oper.upon_enter]
  refine (hm.calls (fun b => b < w.heap.size) _ w (fun b hb => hb) h1 (hG w r.below)).mono ?_
  rintro en w' ⟨x, rfl, hx, hb⟩
  have r' := r.grow (grownBy_below hb (Nat.le_refl _) none)
  exact hk own x w' r' (wk_rep hx)
theorem nilB_l {a b : Bool} (h : nilB a b = true) : a = true := by
  cases a with
  | true => rfl
  | false => cases h
theorem goes_build0 (tk : TOk P T) (r : R ζ N own e h a w) {t : TypeId} (ho : o.op = .buildSlice t 0 #[]) {ti te : TI} {el : TypeId} (ht : T t = some ti) (hd : ti.d = .slice el) (hte : T el = some te) : Goes P T ζ N e h a w o (.p (.sl 0 [])) := by
  have hu := under_slice (tk.ok t ti ht) hd
  refine ⟨own, .slice (some ⟨w.heap.size, 0, none⟩) 0 0, _, .inl ?_, r.grow (World.grownBy_alloc w (.cells #[] el (0, 0)) none), ?_⟩
  · simp [execOp, ho, Instr.buildSlice, run_under_of hu, (tk.ok _ _ hte).run_size, Instr.fill, newRow, Array.range_zero']
  · show RepP _ _ _ _
    simp only [RepP]
    exact ⟨_, 0, rfl, Nat.le_refl _, .inl rfl, .inl trivial⟩
theorem goes_append0 (tk : TOk P T) (r : R ζ N own e h a w) {t : TypeId} {s x : Operand} (ho : o.op = .call ⟨.builtin .append, #[s, x], #[t, t]⟩) {ti te : TI} {el : TypeId} {n : Nat} {cs ds : List PV} (ht : T t = some ti) (hd : ti.d = .slice el) (hte : T el = some te)
    (hs : evO e s = .p (.sl n cs)) (hx : evO e x = .p (.sl 0 ds)) : Goes P T ζ N e h a w o (.p (.sl n cs)) := by
  have hu := under_slice (tk.ok t ti ht) hd
  obtain ⟨ie, zv, i1, i2, i3, i4⟩ := (tk.ok _ _ hte).info
  have hv := ev_p r hs
  have hw := ev_p r hx
  have hv0 := hv
  simp only [RepP] at hv hw
  obtain ⟨ad, c, e1, k0, k1, _⟩ := hv
  obtain ⟨bd, d, e2, k2, k3, _⟩ := hw
  have hrun := run_append_zero (P := P) (w := w) t o.type el ie hu i1 ad bd n c d k0 k1 k3
  refine ⟨own, .slice ad n c, w, .inl ?_, r, ?_⟩
  · simp [execOp, ho, resolve, invoke, builtin, e1, e2, hrun]
  · rw [e1] at hv0; exact hv0
theorem rows_id : ζ.rows ζ.ρ ζ.rv = ζ := rfl
theorem opR_sound (tk : TOk P T) (hG : ∀ w', ζ.w.grownBy w' ζ.ob → G w') (r : R ζ N own e h a w) (hd : dstOk N o.dst) {b : Bool} {k : SV → Env → Hp → Rws → Prop} (hv : rrK P G T o.dst o.op e h ζ.ρ (opR T X b o.type o.op e ζ.ρ) k)
    (hk : ∀ ρ' rv' own' e' h' v x w', R (ζ.rows ρ' rv') N own' e' h' a w' → RepS (ζ.rows ρ' rv') own' h' w' v x → k v e' h' ρ' → next (a.put o.dst x) w') : o.wp P a w next Q := by
  have old : rrK P G T o.dst o.op e h ζ.ρ .old k → o.wp P a w next Q := by
    intro hv
    obtain ⟨v, h', h1, h2⟩ := opS_sound (ρ := ζ.ρ) hv
    exact op_sound tk hG r hd h1 fun own' x w' r' hx => hk ζ.ρ ζ.rv own' e h' v x w' r' hx h2
  have nil : ∀ {t : TypeId} {n : Nat}, (∀ ti te el nm, T t = some ti → ti.d = .slice el → T el = some te → ζ.ρ nm = none → RowGoes P ζ N e h a w o nm ⟨el, te.size, 0, [], false⟩ (.orow nm)) → rrK P G T o.dst o.op e h ζ.ρ (rNil T (T t)) k → o.wp P a w next Q := by
    intro t n hrow hv
    unfold rNil at hv
    split at hv
    · rename_i ti ht
      split at hv
      · rename_i el hd
        split at hv
        · rename_i te hte
          obtain ⟨_, hv⟩ := hv
          obtain ⟨nm, h1, h2⟩ := freshR_spec hv
          exact row_wp (ρ' := ζ.ρ) (hrow ti te el nm ht hd hte h1) fun rv' own' x w' r' hx => hk _ rv' own' e h _ x w' r' hx h2
        · exact old hv
      · exact old hv
    · exact old hv
  generalize hop : o.op = op at hv old nil
  unfold opR at hv
  split at hv
  · rename_i x
    split at hv
    · rename_i hx
      exact nil (n := 0) (fun ti te el nm _ _ _ hn => opR_nil tk r hn (nilB_l hx) (.inl hop) el te.size) hv
    · exact old hv
  · rename_i x
    split at hv
    · rename_i hx
      exact nil (n := 0) (fun ti te el nm _ _ _ hn => opR_nil tk r hn (nilB_l hx) (.inr hop) el te.size) hv
    · exact old hv
  · rename_i t
    unfold b0R at hv
    split at hv
    · unfold rB0 at hv
      split at hv
      · rename_i ti ht
        split at hv
        · rename_i el hd
          unfold rB0K at hv
          split at hv
          · rename_i te hte
            exact goes_wp (goes_build0 tk r hop ht hd hte) fun own' x w' r' hx => hk ζ.ρ ζ.rv own' e h _ x w' r' hx hv.2
          · exact hv.elim
        · exact hv.elim
      · exact hv.elim
    · exact nil (n := 0) (fun ti te el nm ht hd hte hn => opR_build0 tk r hn hop ht hd hte) hv
  · rename_i t n ps _
    split at hv
    · unfold rLit at hv
      split at hv
      · rename_i ti pl ht hp
        split at hv
        · rename_i el hd
          unfold rlK2 at hv
          split at hv
          · rename_i te hte
            unfold rlK3 at hv
            split at hv
            · rename_i cs hf
              obtain ⟨⟨h1, h2, h3⟩, h4⟩ := hv
              exact goes_wp (goes_buildSlice tk r t n ps hop ht hd hte hp h1 h2 h3 hf (.inr rfl)) fun own' x w' r' hx => hk ζ.ρ ζ.rv own' e h _ x w' r' hx h4
            · exact hv.elim
          · exact hv.elim
        · exact hv.elim
      · exact hv.elim
    · exact old hv
  · rename_i t x y
    unfold rStore at hv
    split at hv
    · rename_i nm off hx
      split at hv
      · rename_i ti q z ht hq hy
        split at hv
        · rename_i zs hc
          obtain ⟨⟨h1, h2, h3⟩, h4⟩ := hv
          exact row_wp (ρ' := ζ.ρ) (opR_store tk r hop ht hx hq hy hc h1 h2 h3) fun rv' own' x w' r' hx => hk _ rv' own' e h _ x w' r' hx h4
        · exact hv.elim
      · exact hv.elim
    · exact old hv
  · rename_i t l c
    unfold rMake at hv
    split at hv
    · rename_i ti k1 n k2 m ht hl hc
      split at hv
      · rename_i el hd
        split at hv
        · rename_i te hte
          obtain ⟨⟨h0, h1, h2, h3⟩, hv⟩ := hv
          obtain ⟨nm, h5, h6⟩ := freshR_spec hv
          exact row_wp (ρ' := ζ.ρ) (opR_make tk r h5 hop ht hd hte hl hc h0 h1 h2 h3) fun rv' own' x w' r' hx => hk _ rv' own' e h _ x w' r' hx h6
        · exact hv.elim
      · exact hv.elim
    · exact hv.elim
  · rename_i t x lo hi
    unfold rSlice at hv
    split at hv
    · rename_i nm hx
      split at hv
      · rename_i ti q ht hq
        split at hv
        · rename_i el hd
          split at hv
          · rename_i te l m hte hl hm
            obtain ⟨⟨h0, h1, h2, h3, h3p⟩, h4⟩ := hv
            exact row_wp (ρ' := ζ.ρ) (opR_slice tk r hop ht hd hte hx hq hl hm h0 h1 h2 h3 h3p) fun rv' own' x w' r' hx => hk _ rv' own' _ h _ x w' r' hx h4
          · exact hv.elim
        · exact hv.elim
      · exact hv.elim
    · exact old hv
  · rename_i s x t t'
    split at hv
    · rename_i htt
      have htt := Nat.eq_of_beq_eq_true htt
      subst htt
      have plain : ∀ {b : Bool}, rrK P G T o.dst o.op e h ζ.ρ (rAppend T ζ.ρ (T t) (evO e s) (evO e x)) k → o.wp P a w next Q := by
        intro b hv
        unfold rAppend at hv
        split at hv
        · rename_i ti nm m news ht hs hx
          split at hv
          · rename_i el q hd hq
            split at hv
            · rename_i te hte
              obtain ⟨⟨h1, h2, h3, h4, h5, h6, h7, h8⟩, h9⟩ := hv
              exact row_wp (ρ' := ζ.ρ) (opR_append tk r hop ht hd hte hs hx hq h1 h2 h3 h4 h5 h6 h7 h8) fun rv' own' x w' r' hx => hk _ rv' own' _ h _ x w' r' hx h9
            · exact hv.elim
          · exact hv.elim
        · rename_i ti n cs m news ht hs hx
          split at hv
          · rename_i el hd
            unfold rAppF at hv
            split at hv
            · rename_i te hte
              obtain ⟨⟨h1, h2, h3, h4, h5, h6, h7, h8⟩, hv⟩ := hv
              obtain ⟨nm, h9, h10⟩ := freshR_spec hv
              exact row_wp (ρ' := ζ.ρ) (opF_append tk r h9 hop ht hd hte (ev_p r hs) hx h1 h2 h3 h4 h5 h6 h7 h8) fun rv' own' x w' r' hx => hk _ rv' own' e h _ x w' r' hx h10
            · exact hv.elim
          · exact hv.elim
        · rename_i ti n cs ds ht hs hx
          split at hv
          · rename_i el hd
            unfold rApZ at hv
            split at hv
            · rename_i te hte
              exact goes_wp (goes_append0 tk r hop ht hd hte hs hx) fun own' x w' r' hx => hk ζ.ρ ζ.rv own' e h _ x w' r' hx hv.2
            · exact hv.elim
          · exact hv.elim
        · exact hv.elim
      unfold rAppN at hv
      split at hv
      · rename_i ti m news ht hnl hx
        split at hv
        · rename_i el hd
          unfold rAppF at hv
          split at hv
          · rename_i te hte
            obtain ⟨⟨h1, h2, h3, h4, h5, h6, h7, h8⟩, hv⟩ := hv
            obtain ⟨nm, h9, h10⟩ := freshR_spec hv
            have hrep : RepP (Bk ζ own h w) w (.fl 0 []) (a.eval s) := by
              unfold isNil at hnl
              split at hnl
              · simp only [RepP, Act.eval]; exact ⟨none, rfl, .inl trivial, .inl trivial⟩
              · cases hnl
            exact row_wp (ρ' := ζ.ρ) (opF_append tk r h9 hop ht hd hte hrep hx h1 h2 h3 h4 h5 h6 h7 h8) fun rv' own' x w' r' hx => hk _ rv' own' e h _ x w' r' hx h10
          · exact hv.elim
        · exact hv.elim
      · exact plain (b := true) (by rw [hop]; exact hv)
    · exact hv.elim
  · rename_i f args ts
    unfold rCall at hv
    split at hv
    · rename_i g hf
      split at hv
      · unfold rCall2 at hv
        split at hv
        · rename_i x xs hl
          split at hv
          · rename_i nm rest hx hrest
            split at hv
            · rename_i q hq
              obtain ⟨q', y, h1, h2⟩ := hv
              exact mcall_wp r hG _ f hop rfl hf hl hx hq hrest h1 fun rv' own' x w' r' hx => hk _ rv' own' e h _ x w' r' hx h2
            · exact hv.elim
          · exact hv.elim
        · exact hv.elim
      · split at hv
        · unfold rCallT at hv
          split at hv
          · rename_i x xs hl
            split at hv
            · rename_i nm rest hx hrest
              split at hv
              · rename_i q hq
                obtain ⟨h1, q', h2, h3, h4⟩ := hv
                exact tcall_wp r hG _ f hop rfl hf hl hx hq hrest h1 h2 h3 fun rv' own' x w' r' hx => hk _ rv' own' _ h _ x w' r' hx h4
              · exact hv.elim
            · exact hv.elim
          · exact hv.elim
        · split at hv
          · unfold rCallF at hv
            split at hv
            · rename_i l hl
              obtain ⟨q, h1, h2, h3⟩ := hv
              obtain ⟨nm, h4, h5⟩ := freshR_spec h3
              exact fcall_wp r hG _ f hop rfl hf hl h4 h1 h2 fun rv' own' x w' r' hx => hk _ rv' own' e h _ x w' r' hx h5
            · exact hv.elim
          · split at hv
            · unfold rBorrow at hv
              split at hv
              · rename_i l hl
                obtain ⟨y, h1, h2⟩ := hv
                exact borrow_wp r hG _ f hop rfl hf hl h1 fun own' x w' r' hx => hk ζ.ρ ζ.rv own' e h _ x w' r' hx h2
              · exact hv.elim
            · exact old hv
    · exact old hv
  · exact old hv
def slE (b : Bool) (x : Operand) : List Operand := match b with | true => [x] | false => []
def escOps (X : Hint) (b : Bool) (op : Op) : List Operand :=
  match op with
  | .box _ x => [x]
  | .slice t x _ _ _ => slE (X.sf.contains t) x
  | .store _ _ y => [y]
  | .build _ ps => ps.toList.map (·.2)
  | .buildSlice _ _ ps => ps.toList.map (·.2)
  | .convert _ _ x => [x]
  | .makeFunc _ fs cs => fs.toList ++ cs.toList
  | .call ⟨.builtin .append, ⟨[_, x]⟩, _⟩ => [x]
  | .call ⟨.value (.func g), args, _⟩ => (match mcHas X g || tcHas X g with | true => args.toList.drop 1 | false => (match b && !fcHas X g with | true => [] | false => args.toList))
  | .call ⟨.value _, args, _⟩ => (match b with | true => [] | false => args.toList)
  | _ => []
def escR (nm : Nat) (q : Option RowE) (e : Env) (h : Hp) (ρ : Rws) (k : Env → Hp → Rws → Prop) : Prop :=
  match q with
  | some q => (match q.par with | true => False | false => k (frzE nm q.n q.cs e) h (upd ρ nm none))
  | none => False
def escB (nm : Nat) (q : Option (TypeId × List PV)) (e : Env) (h : Hp) (ρ : Rws) (k : Env → Hp → Rws → Prop) : Prop :=
  match q with
  | some (_, cs) => k (frbE nm cs e) (upd h nm none) ρ
  | none => False
def escS (s : SV) (e : Env) (h : Hp) (ρ : Rws) (k : Env → Hp → Rws → Prop) : Prop :=
  match s with
  | .orow nm => escR nm (ρ nm) e h ρ k
  | .rowp nm _ => escR nm (ρ nm) e h ρ k
  | .box nm _ => escB nm (h nm) e h ρ k
  | .p _ => k e h ρ
  | .any => k e h ρ
def escK : List Operand → Env → Hp → Rws → (Env → Hp → Rws → Prop) → Prop
  | [], e, h, ρ, k => k e h ρ
  | x :: xs, e, h, ρ, k => escS (evO e x) e h ρ fun e h ρ => escK xs e h ρ k
theorem escK_sound {K : Prop} : ∀ (xs : List Operand) (ζ : Fr) (e : Env) (h : Hp) (k : Env → Hp → Rws → Prop), R ζ N own e h a w → escK xs e h ζ.ρ k → (∀ ρ' e' h', R (ζ.rows ρ' ζ.rv) N own e' h' a w → k e' h' ρ' → K) → K
  | [], ζ, e, h, k, r, hv, hk => hk ζ.ρ e h r hv
  | x :: xs, ζ, e, h, k, r, hv, hk => by
    simp only [escK] at hv
    have row : ∀ nm, escR nm (ζ.ρ nm) e h ζ.ρ (fun e h ρ => escK xs e h ρ k) → K := by
      intro nm hv
      unfold escR at hv
      split at hv
      · rename_i q hq
        split at hv
        · exact hv.elim
        · rename_i hp
          exact escK_sound xs (ζ.rows (upd ζ.ρ nm none) ζ.rv) _ h k (r.rowFreeze hq hp) hv hk
      · exact hv.elim
    unfold escS at hv
    split at hv
    · exact row _ hv
    · exact row _ hv
    · unfold escB at hv
      split at hv
      · rename_i T0 cs hq
        exact escK_sound xs ζ _ _ k (r.boxFreeze hq) hv hk
      · exact hv.elim
    · exact escK_sound xs ζ e h k r hv hk
    · exact escK_sound xs ζ e h k r hv hk
end
end Go.Sx
