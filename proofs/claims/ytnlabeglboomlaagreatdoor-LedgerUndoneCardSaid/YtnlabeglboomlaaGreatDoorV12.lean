/- A part of a proof; the last text of this claim says of what. -/
import Derived.Test.YtnlabeglboomlaaGreatDoorV11
set_option linter.unusedVariables false
set_option linter.unusedSimpArgs false
set_option linter.unusedSectionVars false
namespace Go.Sx
open Go Go.RowKit Go.Shelf Go.Proofs
section
variable {P : Program} {G : World → Prop} {T : Tab} {ζ : Fr} {N : Nat} {own own' : Nat → Nat} {e : Env} {h h' : Hp} {a : Act} {w w' : World} {o : Oper} {v : SV} {next : Act → World → Prop} {Q : Exit → Act → World → Prop}
theorem new_rep (r : R ζ N own e h a w) {w' : World} (hg : w.grownBy w' none) (hlt : w.heap.size < w'.heap.size) {cs : List PV} {vs : List Value} (hr : RepL (Bk ζ own h w) w cs vs) (hc : ∀ j v, vs[j]? = some v → w'.cell? ⟨w.heap.size, j, none⟩ = some v) :
    Bk ζ own h w' w.heap.size ∧ RepC (Bk ζ own h w') w' cs w.heap.size 0 := by
  have hblk : ∀ k, k < w.heap.size → w'.heap[k]? = w.heap[k]? := fun k hk => hg.block k hk (by simp)
  refine ⟨⟨.inr r.below.size, hlt, fun nm hn => ?_, fun nm hn e1 => ?_, fun e1 => ?_⟩, RepC.of_vals (RepL.mono (fun b hb => Bk.grow hblk hg.size hb) _ _ hr) fun j v hj => by rw [Nat.zero_add]; exact hc j v hj⟩
  · have := r.own_lt hn; omega
  · have := r.row_lt hn e1; omega
  · have := r.obl _ e1; have := r.below.size; omega
theorem made_cells (z : List Value) (n : Nat) : (madeCells ⟨z⟩ (n * z.length)).toList = (List.replicate n z).flatten := by
  rw [← range_mod z n]
  simp [madeCells, getElem!_def]
theorem goes_make (tk : TOk P T) (r : R ζ N own e h a w) (t : TypeId) (l c : Operand) (ho : o.op = .makeSlice t l c) {ti te : TI} {el : TypeId} {k k' : IntKind} {n : Int} (ht : T t = some ti) (hd : ti.d = .slice el) (hte : T el = some te)
    (hl : evO e l = .p (.val (.int k n))) (hc : evO e c = .p (.val (.int k' n))) (h0 : 0 ≤ n) (h1 : (te.bytes : Int) * n ≤ 281474976710656) (h2 : n ≤ 9223372036854775807) : Goes P T ζ N e h a w o (.p (.fl n.toNat (rep n.toNat te.zero))) := by
  have hu := under_slice (tk.ok t ti ht) hd
  obtain ⟨ie, zv, e1, e2, e3, e4⟩ := (tk.ok _ _ hte).info
  obtain ⟨ie', e5, e6⟩ := (tk.ok _ _ hte).bytes
  rw [e1] at e5; cases e5
  have hz := (e4 (fun _ => True) w).length
  rw [(tk.ok _ _ hte).zlen] at hz
  have hrun := run_make (P := P) w t el ie zv hu e1 e3 k k' n n h0 (Int.le_refl _) (by rw [e6]; exact h1) h2
  have hz2 : zv.cells.size = ie.size := by rw [← Array.length_toList, hz, e2]
  have hcs : (madeCells zv.cells (n.toNat * ie.size)).toList = (List.replicate n.toNat zv.cells.toList).flatten := by
    have := made_cells zv.cells.toList n.toNat
    rw [Array.length_toList, hz2] at this
    exact this
  obtain ⟨b1, b2⟩ := new_rep (w' := w.alloc (.cells (madeCells zv.cells (n.toNat * ie.size)) el)) r (World.grownBy_alloc w _ none) (by simp) (rep_rep (e4 _ _) n.toNat) (by
    intro j v hj
    have : (w.alloc (.cells (madeCells zv.cells (n.toNat * ie.size)) el)).heap[w.heap.size]? = some (.cells (madeCells zv.cells (n.toNat * ie.size)) el (0, 0)) := by show (w.heap.push _)[w.heap.size]? = _; simp
    rw [← hcs] at hj
    simp only [World.cell?, this]
    simpa using hj)
  refine ⟨own, .slice (some ⟨w.heap.size, 0, none⟩) n.toNat n.toNat, _, .inl ?_, r.grow (World.grownBy_alloc w (.cells (madeCells zv.cells (n.toNat * ie.size)) el) none), ?_⟩
  · simp only [execOp, ho, Sem.run_bind, ev_val r hl, ev_val r hc]
    rw [hrun]
    rfl
  · show RepP _ _ _ _
    simp only [RepP]
    exact ⟨_, rfl, .inr (by simp), .inr ⟨w.heap.size, 0, rfl, b1, b2⟩⟩
theorem goes_append (tk : TOk P T) (r : R ζ N own e h a w) (c : Call) (ho : o.op = .call c) (hc : c.callee = .builtin .append) {s x : Operand} {t : TypeId} {ti te : TI} {el : TypeId} {n m : Nat} {cs news : List PV} (ha : c.args.toList = [s, x]) (hat : c.argTypes.toList = [t, t])
    (ht : T t = some ti) (hd : ti.d = .slice el) (hte : T el = some te) (hs : evO e s = .p (.fl n cs)) (hx : evO e x = .p (.sl m news)) (h0 : 0 < m) (h1 : cs.length = n * te.size) (h2 : news.length = m * te.size) (h5 : 0 < te.size) (h6 : n + m ≤ maxLen) (h7 : (n + m) * te.bytes ≤ 140737488355328) :
    Goes P T ζ N e h a w o (.p (.sl (n + m) (cs ++ news))) := by
  have hu := under_slice (tk.ok t ti ht) hd
  obtain ⟨ie, zv, i1, i2, i3, i4⟩ := (tk.ok _ _ hte).info
  obtain ⟨ie', i5, i6⟩ := (tk.ok _ _ hte).bytes
  rw [i1] at i5; cases i5
  have hv := ev_p r hs
  have hw := ev_p r hx
  simp only [RepP] at hv hw
  obtain ⟨ad, e1, k0, kr⟩ := hv
  obtain ⟨bd, cp, e2, hmc, hc0, hr⟩ := hw
  have cells : ∀ {q : Option Addr} {ps : List PV}, (ps = [] ∨ ∃ b o, q = some ⟨b, o, none⟩ ∧ Bk ζ own h w b ∧ RepC (Bk ζ own h w) w ps b o) → ∃ vs, RepL (Bk ζ own h w) w ps vs ∧ ∀ a', q = some a' → ∀ j u, vs[j]? = some u → w.cell? (a'.add j) = some u := by
    intro q ps hq
    rcases hq with hq | ⟨b, of, e3, hb, hq⟩
    · subst hq; exact ⟨[], by simp [RepL], by simp⟩
    · subst e3
      obtain ⟨vs, q1, q2⟩ := hq.vals
      exact ⟨vs, q1, fun a' ha' j u hj => by cases ha'; rw [add_plain']; exact q2 j u hj⟩
  obtain ⟨vs, q1, q2⟩ := cells kr
  obtain ⟨us, p1, p2⟩ := cells hr
  have vl : vs.length = n * ie.size := by rw [q1.length, h1, i2]
  have ul : us.length = m * ie.size := by rw [p1.length, h2, i2]
  obtain ⟨bd, rfl⟩ : ∃ b', bd = some b' := by
    cases bd with
    | none =>
      have : cp = 0 := by
        rcases hc0 with h | h
        · exact h
        · exact absurd rfl h
      omega
    | some b' => exact ⟨b', rfl⟩
  have hsmall : n + m ≤ 9223372036854775807 := by simp only [maxLen] at h6; omega
  have hargs : c.args = #[s, x] := by apply Array.toList_inj.1; simpa using ha
  have hts : c.argTypes = #[t, t] := by apply Array.toList_inj.1; simpa using hat
  have fin : ∀ (zs : Array Value) (cp' : Nat), n + m ≤ cp' → (Builtin.append_ #[t, t] o.type #[.slice ad n n, .slice (some bd) m cp]).run P w = .ok (.slice (some ⟨w.heap.size, 0, none⟩) (n + m) cp') (w.drew.alloc (.cells (vs.toArray ++ us.toArray ++ zs) el)) → Goes P T ζ N e h a w o (.p (.sl (n + m) (cs ++ news))) := by
    intro zs cp' hcp hrun
    have hg : w.grownBy (w.drew.alloc (.cells (vs.toArray ++ us.toArray ++ zs) el)) none := ⟨rfl, rfl, rfl, by simp, fun k hk _ => by show (w.heap.push _)[k]? = _; rw [Array.getElem?_push_lt hk, Array.getElem?_eq_getElem hk]⟩
    obtain ⟨b1, b2⟩ := new_rep (w' := w.drew.alloc (.cells (vs.toArray ++ us.toArray ++ zs) el)) r hg (by simp) (RepL.append q1 p1) (by
      intro j v hj
      have hh : (w.drew.alloc (.cells (vs.toArray ++ us.toArray ++ zs) el)).heap[w.heap.size]? = some (.cells (vs.toArray ++ us.toArray ++ zs) el (0, 0)) := by show (w.heap.push _)[w.heap.size]? = _; simp
      simp only [World.cell?, hh]
      have hjl : j < (vs ++ us).length := (List.getElem?_eq_some_iff.1 hj).1
      have : (vs.toArray ++ us.toArray ++ zs)[j]? = (vs ++ us)[j]? := by
        rw [Array.getElem?_append_left (by simpa using hjl)]
        simp
      simp only [Option.isSome_none, Bool.false_eq_true, if_false]
      rw [this]; exact hj)
    refine ⟨own, .slice (some ⟨w.heap.size, 0, none⟩) (n + m) cp', _, .inl ?_, r.grow hg, ?_⟩
    · simp [execOp, ho, resolve, hc, invoke, builtin, hargs, hts, e1, e2, hrun]
    · show RepP _ _ _ _
      simp only [RepP]
      exact ⟨_, cp', rfl, hcp, .inr (by simp), .inr ⟨w.heap.size, 0, rfl, b1, b2⟩⟩
  cases ad with
  | none =>
    have hn0 : n = 0 := by
      rcases k0 with h | h
      · exact h
      · exact absurd rfl h
    subst hn0
    have hvs : vs = [] := List.eq_nil_of_length_eq_zero (by rw [vl]; simp)
    subst hvs
    have hrun := run_append_nil (P := P) w t o.type el ie zv hu i1 i3 bd m cp us ul (p2 bd rfl) h0 (by omega) (by rw [i6]; simp only [Nat.zero_add] at h7; omega)
    refine fin (Builtin.zeroCells zv.cells (grownCap w m 0 el - m)) (grownCap w m 0 el) (by rw [Nat.zero_add]; exact grownCap_ge w m 0 el) ?_
    simp only [Nat.zero_add, Array.empty_append]
    exact hrun
  | some ad =>
    have hrun := run_append_grow (P := P) w t o.type el ie zv hu i1 i3 ad n n vs vl (q2 ad rfl) bd m cp us ul (p2 bd rfl) (by omega) (by omega) (by rw [i6]; exact growslice_fits (by omega) h7)
    exact fin _ _ (grownCap_ge w (n + m) n el) hrun
theorem goes_len (tk : TOk P T) (r : R ζ N own e h a w) (c : Call) (ho : o.op = .call c) (hc : c.callee = .builtin .len) {t : TypeId} {x : Operand} {ti : TI} (h1 : c.argTypes[0]? = some t) (h2 : c.args.toList = [x]) (ht : T t = some ti)
    (hs : (∃ s, ti.d = .string ∧ evO e x = .p (.val (.string s)) ∧ v = .p (.val (.int .i64 (s.size : Nat)))) ∨ (∃ n cs el, ti.d = .slice el ∧ evO e x = .p (.sl n cs) ∧ v = .p (.val (.int .i64 (n : Nat)))) ∨ (∃ nm q el, ti.d = .slice el ∧ evO e x = .orow nm ∧ ζ.ρ nm = some q ∧ v = .p (.val (.int .i64 (q.n : Nat))))) : Goes P T ζ N e h a w o v := by
  have e3 : c.args = #[x] := by apply Array.toList_inj.1; simpa using h2
  rcases hs with ⟨s, hd, hx, rfl⟩ | ⟨n, cs, el, hd, hx, rfl⟩ | ⟨nm, q, el, hd, hx, hq, rfl⟩
  · have e1 := ev_val r hx
    have e2 := run_under_of (under_string (tk.ok t ti ht) hd) w
    refine Goes.same r (x := .int .i64 (s.size : Nat)) ?_ (by show RepP _ _ _ _; simp only [RepP])
    simp [execOp, ho, resolve, hc, invoke, builtin, Builtin.len_, h1, e3, e1, e2, goInt]
  · have hv := ev_p r hx
    simp only [RepP] at hv
    obtain ⟨ad, c', e1, _⟩ := hv
    have e2 := run_under_of (under_slice (tk.ok t ti ht) hd) w
    refine Goes.same r (x := .int .i64 (n : Nat)) ?_ (by show RepP _ _ _ _; simp only [RepP])
    simp [execOp, ho, resolve, hc, invoke, builtin, Builtin.len_, h1, e3, e1, e2, goInt]
  · obtain ⟨hne, e1⟩ := ev_orow r hx
    obtain ⟨vs, g1, _⟩ := r.row nm q hq
    have e2 := run_under_of (under_slice (tk.ok t ti ht) hd) w
    have : ∃ ad c, a.eval x = .slice ad q.n c := by
      rcases g1.2 with ⟨h1, h0⟩ | ⟨g, cap, cur, hv, _⟩
      · exact ⟨none, 0, by rw [e1, h1, h0]⟩
      · exact ⟨_, _, by rw [e1, hv]⟩
    obtain ⟨ad, c', e1⟩ := this
    refine Goes.same r (x := .int .i64 (q.n : Nat)) ?_ (by show RepP _ _ _ _; simp only [RepP])
    simp [execOp, ho, resolve, hc, invoke, builtin, Builtin.len_, h1, e3, e1, e2, goInt]
theorem goes_max (r : R ζ N own e h a w) (c : Call) (ho : o.op = .call c) (hc : c.callee = .builtin .max) {x y : Operand} {k : IntKind} {m n : Int} (h2 : c.args.toList = [x, y]) (hx : evO e x = .p (.val (.int k m))) (hy : evO e y = .p (.val (.int k n))) :
    Goes P T ζ N e h a w o (.p (.val (.int k (if n > m then n else m)))) := by
  have e3 : c.args = #[x, y] := by apply Array.toList_inj.1; simpa using h2
  refine Goes.same r (x := .int k (if n > m then n else m)) ?_ (by show RepP _ _ _ _; simp only [RepP])
  simp [execOp, ho, resolve, hc, invoke, builtin, Builtin.max_, Builtin.max2, e3, ev_val r hx, ev_val r hy]
theorem goes_min (r : R ζ N own e h a w) (c : Call) (ho : o.op = .call c) (hc : c.callee = .builtin .min) {x y : Operand} {k : IntKind} {m n : Int} (h2 : c.args.toList = [x, y]) (hx : evO e x = .p (.val (.int k m))) (hy : evO e y = .p (.val (.int k n))) :
    Goes P T ζ N e h a w o (.p (.val (.int k (if n < m then n else m)))) := by
  have e3 : c.args = #[x, y] := by apply Array.toList_inj.1; simpa using h2
  refine Goes.same r (x := .int k (if n < m then n else m)) ?_ (by show RepP _ _ _ _; simp only [RepP])
  simp [execOp, ho, resolve, hc, invoke, builtin, Builtin.min_, Builtin.min2, e3, ev_val r hx, ev_val r hy]
theorem op_sound (tk : TOk P T) (hG : ∀ w', ζ.w.grownBy w' ζ.ob → G w') (r : R ζ N own e h a w) (hd : dstOk N o.dst) (hs : Sop P G T ζ.ρ o e h v h') (hk : ∀ own' x w', R ζ N own' e h' a w' → RepS ζ own' h' w' v x → next (a.put o.dst x) w') : o.wp P a w next Q := by
  unfold Sop at hs
  split at hs
  · rename_i x ho
    obtain ⟨rfl, rfl⟩ := hs
    exact goes_wp (T := T) (Goes.same r (x := a.eval x) (by simp [execOp, ho]) (ev_sound r x)) hk
  · rename_i x ho
    obtain ⟨rfl, rfl⟩ := hs
    exact goes_wp (T := T) (Goes.same r (x := a.eval x) (by simp [execOp, ho]) (ev_sound r x)) hk
  · rename_i c x y ho
    obtain ⟨t, hc, rfl, rfl⟩ := hs
    exact goes_wp (T := T) (goes_pick r c x y ho hc) hk
  · rename_i t ho
    obtain ⟨nm, ti, hdn, ht, hn, rfl, rfl⟩ := hs
    rw [hdn] at hd
    exact goes_wp (goes_alloc tk r t ho ht hd hn) hk
  · rename_i t x ho
    obtain ⟨nm, y, cs, hdn, hx, hc, hn, rfl, rfl⟩ := hs
    rw [hdn] at hd
    exact goes_wp (goes_box (T := T) r t x ho hx hc hd hn) hk
  · rename_i t x ho
    obtain ⟨rfl, hp, ti, y, ht, hl, rfl⟩ := hs
    exact goes_wp (goes_load tk r t x ho hp ht hl) hk
  · rename_i t x y ho
    obtain ⟨ti, nm, off, T0, cs, z, zs, ht, hx, hh, hy, hc, h1, h2, h3, rfl, rfl⟩ := hs
    exact goes_wp (goes_store tk r t x y ho ht hx hh hy hc h1 h2 h3) hk
  · rename_i t x f ho
    obtain ⟨rfl, ti, off, tf, ht, hf, hz, hp, rfl⟩ := hs
    exact goes_wp (goes_fieldAddr tk r t x f ho ht hf hz hp) hk
  · rename_i t x f ho
    obtain ⟨rfl, ti, off, tf, cs, y, ht, hf, hx, hfit, hl, rfl⟩ := hs
    exact goes_wp (goes_field tk r t x f ho ht hf hx hfit hl) hk
  · rename_i op t x y t' ho
    obtain ⟨rfl, p, q, c, hx, hy, hb, rfl⟩ := hs
    exact goes_wp (goes_binop tk r op t t' x y ho hx hy hb) hk
  · rename_i op t x ho
    obtain ⟨rfl, hu⟩ := hs
    exact goes_wp (T := T) (goes_unop r op t x ho hu) hk
  · rename_i t x i ok ho
    obtain ⟨rfl, ti, kt, te, l, n, g, ht, hd, hte, hk1, hx, hi, hg, rfl, rfl⟩ := hs
    exact goes_wp (T := T) (goes_lookup tk r t x i ho ht hd hte hk1 hx hi hg) hk
  · rename_i x i ho
    obtain ⟨rfl, vs, y, hx, hy, rfl⟩ := hs
    exact goes_wp (T := T) (goes_extract r x i ho hx hy) hk
  · rename_i s d x ho
    obtain ⟨rfl, ts, td, h1, h2, h3⟩ := hs
    exact goes_wp (goes_convert tk r s d x ho h1 h2 h3) hk
  · rename_i t parts ho
    obtain ⟨rfl, ti, ps, cs, ht, hp, h1, h2, rfl⟩ := hs
    exact goes_wp (goes_build tk r t parts ho ht hp h1 h2) hk
  · rename_i t n parts ho
    obtain ⟨rfl, ti, el, te, ps, cs, ht, hd, hte, hp, h1, h2, h3, h4, rfl⟩ := hs
    exact goes_wp (goes_buildSlice tk r t n parts ho ht hd hte hp h1 h2 h3 h4 (.inl rfl)) hk
  · rename_i t x i ho
    obtain ⟨rfl, ti, k, n, ht, hi, hc⟩ := hs
    exact goes_wp (goes_index tk r t x i ho ht hi hc) hk
  · rename_i t x i ho
    obtain ⟨rfl, ti, k, n, ht, hi, hc⟩ := hs
    exact goes_wp (goes_indexAddr tk r t x i ho ht hi hc) hk
  · rename_i t x lo hi mx ho
    obtain ⟨rfl, ti, l, m, ht, rfl, h0, h1, hc⟩ := hs
    exact goes_wp (goes_slice tk r t x lo hi ho ht h0 h1 hc) hk
  · rename_i f first captured ho
    obtain ⟨rfl, fs, cs, h1, h2, rfl⟩ := hs
    refine goes_wp (T := T) (Goes.same r (x := .func (.func f) ⟨first.toList.map a.eval⟩ ⟨captured.toList.map a.eval⟩) ?_ ?_) hk
    · have e3 : ∀ l : Array Operand, l.map a.eval = ⟨l.toList.map a.eval⟩ := by intro l; apply Array.toList_inj.1; simp
      simp only [execOp, ho, Instr.makeFunc, Sem.run_bind, Sem.run_pure, Result.andThen_ok, e3]
    · show RepP _ _ _ _
      simp only [RepP]
      exact ⟨_, _, rfl, evPs_rep r _ _ h1, evPs_rep r _ _ h2⟩
  · rename_i t l c ho
    obtain ⟨rfl, ti, el, te, k, k', n, ht, hd, hte, hl, hc, h0, h1, h2, rfl⟩ := hs
    exact goes_wp (goes_make tk r t l c ho ht hd hte hl hc h0 h1 h2) hk
  · rename_i c ho
    obtain ⟨rfl, hc⟩ := hs
    split at hc
    · rename_i hcl
      obtain ⟨t, x, ti, h1, h2, ht, h3⟩ := hc
      exact goes_wp (goes_len tk r c ho hcl h1 h2 ht h3) hk
    · rename_i hcl
      obtain ⟨x, y, k, m, n, h1, h2, h3, rfl⟩ := hc
      exact goes_wp (T := T) (goes_max r c ho hcl h1 h2 h3) hk
    · rename_i hcl
      obtain ⟨x, y, k, m, n, h1, h2, h3, rfl⟩ := hc
      exact goes_wp (T := T) (goes_min r c ho hcl h1 h2 h3) hk
    · rename_i hcl
      obtain ⟨s, x, t, ti, el, te, n, m, cs, news, h1, h2, h3, h4, h5, h6, h7, h8, h9, h10, h11, h12, h13, rfl⟩ := hc
      exact goes_wp (goes_append tk r c ho hcl h1 h2 h3 h4 h5 h6 h7 h8 h9 h10 h11 h12 h13) hk
    · rename_i f hcl
      obtain ⟨g, fs, cs, args, y, h1, h2, h3, rfl⟩ := hc
      exact call_wp r hG c f ho hcl h1 h2 h3 hk
    · cases hc
  · rename_i x ho
    obtain ⟨rfl, hp, rfl⟩ := hs
    obtain ⟨b, of, hb, _⟩ := shift_sound r hp 0
    exact goes_wp (T := T) (Goes.same r (x := a.eval x) (by simp [execOp, ho, hb]) (ev_sound r x)) hk
  · cases hs
end
end Go.Sx
