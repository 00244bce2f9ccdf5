/- A part of a proof; the last text of this claim says of what. -/
import Derived.Test.YtkfmneenhochhaaGreatDoorV10
set_option linter.unusedVariables false
set_option linter.unusedSimpArgs false
set_option linter.unusedSectionVars false
namespace Go.Sx
open Go Go.RowKit Go.Shelf Go.Proofs
section
variable {P : Program} {G : World → Prop} {T : Tab} {ζ : Fr} {N : Nat} {own own' : Nat → Nat} {e : Env} {h h' : Hp} {a : Act} {w w' : World} {o : Oper} {v : SV} {next : Act → World → Prop} {Q : Exit → Act → World → Prop}
theorem goes_len (tk : TOk P T) (r : R ζ N own e h a w) (c : Call) (ho : o.op = .call c) (hc : c.callee = .builtin .len) {t : TypeId} {x : Operand} {ti : TI} (h1 : c.argTypes[0]? = some t) (h2 : c.args.toList = [x]) (ht : T t = some ti)
    (hs : (∃ s, ti.d = .string ∧ evO e x = .p (.val (.string s)) ∧ v = .p (.val (.int .i64 (s.size : Nat)))) ∨ (∃ n cs el, ti.d = .slice el ∧ evO e x = .p (.sl n cs) ∧ v = .p (.val (.int .i64 (n : Nat)))) ∨ (∃ nm q el, ti.d = .slice el ∧ evO e x = .orow nm ∧ ζ.ρ nm = some q ∧ v = .p (.val (.int .i64 (q.n : Nat))))) : Goes P T ζ N e h a w o v := by
  have e3 : c.args = #[x] := by apply Array.toList_inj.1; simpa using h2
  rcases hs with ⟨s, hd, hx, rfl⟩ | ⟨n, cs, el, hd, hx, rfl⟩ | ⟨nm, q, el, hd, hx, hq, rfl⟩
  · have e1 := ev_val r hx
    have e2 := run_under_of (under_string (tk.ok t ti ht) hd) w
    refine Goes.same r (x := .int .i64 (s.size : Nat)) ?_ (by show RepP _ _ _ _; simp only [RepP])
    simp [execOp, ho, resolve, hc, invoke, builtin, Builtin.len_, h1, e3, e1, e2, goInt]
  · have hv := ev_p r hx
    simp only [RepP] at hv
    obtain ⟨ad, c', e1, _⟩ := hv
    have e2 := run_under_of (under_slice (tk.ok t ti ht) hd) w
    refine Goes.same r (x := .int .i64 (n : Nat)) ?_ (by show RepP _ _ _ _; simp only [RepP])
    simp [execOp, ho, resolve, hc, invoke, builtin, Builtin.len_, h1, e3, e1, e2, goInt]
  · obtain ⟨hne, e1⟩ := ev_orow r hx
    obtain ⟨vs, g1, _⟩ := r.row nm q hq
    have e2 := run_under_of (under_slice (tk.ok t ti ht) hd) w
    have : ∃ ad c, a.eval x = .slice ad q.n c := by
      rcases g1.2 with ⟨h1, h0⟩ | ⟨g, cap, cur, hv, _⟩
      · exact ⟨none, 0, by rw [e1, h1, h0]⟩
      · exact ⟨_, _, by rw [e1, hv]⟩
    obtain ⟨ad, c', e1⟩ := this
    refine Goes.same r (x := .int .i64 (q.n : Nat)) ?_ (by show RepP _ _ _ _; simp only [RepP])
    simp [execOp, ho, resolve, hc, invoke, builtin, Builtin.len_, h1, e3, e1, e2, goInt]
theorem goes_max (r : R ζ N own e h a w) (c : Call) (ho : o.op = .call c) (hc : c.callee = .builtin .max) {x y : Operand} {k : IntKind} {m n : Int} (h2 : c.args.toList = [x, y]) (hx : evO e x = .p (.val (.int k m))) (hy : evO e y = .p (.val (.int k n))) :
    Goes P T ζ N e h a w o (.p (.val (.int k (if n > m then n else m)))) := by
  have e3 : c.args = #[x, y] := by apply Array.toList_inj.1; simpa using h2
  refine Goes.same r (x := .int k (if n > m then n else m)) ?_ (by show RepP _ _ _ _; simp only [RepP])
  simp [execOp, ho, resolve, hc, invoke, builtin, Builtin.max_, Builtin.max2, e3, ev_val r hx, ev_val r hy]
theorem goes_min (r : R ζ N own e h a w) (c : Call) (ho : o.op = .call c) (hc : c.callee = .builtin .min) {x y : Operand} {k : IntKind} {m n : Int} (h2 : c.args.toList = [x, y]) (hx : evO e x = .p (.val (.int k m))) (hy : evO e y = .p (.val (.int k n))) :
    Goes P T ζ N e h a w o (.p (.val (.int k (if n < m then n else m)))) := by
  have e3 : c.args = #[x, y] := by apply Array.toList_inj.1; simpa using h2
  refine Goes.same r (x := .int k (if n < m then n else m)) ?_ (by show RepP _ _ _ _; simp only [RepP])
  simp [execOp, ho, resolve, hc, invoke, builtin, Builtin.min_, Builtin.min2, e3, ev_val r hx, ev_val r hy]
theorem op_sound (tk : TOk P T) (hG : ∀ w', ζ.w.grownBy w' ζ.ob → G w') (r : R ζ N own e h a w) (hs : Sop P G T ζ.ρ o e h v h') (hk : ∀ own' x w', R ζ N own' e h' a w' → RepS ζ own' h' w' v x → next (a.put o.dst x) w') : o.wp P a w next Q := by
  unfold Sop at hs
  split at hs
  · rename_i x ho
    obtain ⟨rfl, rfl⟩ := hs
    exact goes_wp (T := T) (Goes.same r (x := a.eval x) (by simp [execOp, ho]) (ev_sound r x)) hk
  · rename_i x ho
    obtain ⟨rfl, rfl⟩ := hs
    exact goes_wp (T := T) (Goes.same r (x := a.eval x) (by simp [execOp, ho]) (ev_sound r x)) hk
  · rename_i c x y ho
    obtain ⟨t, hc, rfl, rfl⟩ := hs
    exact goes_wp (T := T) (goes_pick r c x y ho hc) hk
  · rename_i t ho
    obtain ⟨nm, ti, ht, hn, rfl, rfl⟩ := hs
    exact goes_wp (goes_alloc tk r t ho ht hn) hk
  · rename_i t x ho
    obtain ⟨nm, y, cs, hx, hc, hn, rfl, rfl⟩ := hs
    exact goes_wp (goes_box (T := T) r t x ho hx hc hn) hk
  · rename_i t x ho
    obtain ⟨rfl, hp, ti, y, ht, hl, rfl⟩ := hs
    exact goes_wp (goes_load tk r t x ho hp ht hl) hk
  · rename_i t x y ho
    obtain ⟨ti, nm, off, T0, cs, z, zs, ht, hx, hh, hy, hc, h1, h2, h3, rfl, rfl⟩ := hs
    exact goes_wp (goes_store tk r t x y ho ht hx hh hy hc h1 h2 h3) hk
  · rename_i t x f ho
    obtain ⟨rfl, ti, off, tf, ht, hf, hz, hp, rfl⟩ := hs
    exact goes_wp (goes_fieldAddr tk r t x f ho ht hf hz hp) hk
  · rename_i t x f ho
    obtain ⟨rfl, ti, off, tf, cs, y, ht, hf, hx, hfit, hl, rfl⟩ := hs
    exact goes_wp (goes_field tk r t x f ho ht hf hx hfit hl) hk
  · rename_i op t x y t' ho
    obtain ⟨rfl, p, q, c, hx, hy, hb, rfl⟩ := hs
    exact goes_wp (goes_binop tk r op t t' x y ho hx hy hb) hk
  · rename_i op t x ho
    obtain ⟨rfl, hu⟩ := hs
    exact goes_wp (T := T) (goes_unop r op t x ho hu) hk
  · rename_i t x i ok ho
    obtain ⟨rfl, ti, kt, te, l, n, g, ht, hd, hte, hk1, hx, hi, hg, rfl, rfl⟩ := hs
    exact goes_wp (T := T) (goes_lookup tk r t x i ho ht hd hte hk1 hx hi hg) hk
  · rename_i x i ho
    obtain ⟨rfl, vs, y, hx, hy, rfl⟩ := hs
    exact goes_wp (T := T) (goes_extract r x i ho hx hy) hk
  · rename_i s d x ho
    obtain ⟨rfl, ts, td, h1, h2, h3⟩ := hs
    exact goes_wp (goes_convert tk r s d x ho h1 h2 h3) hk
  · rename_i t parts ho
    obtain ⟨rfl, ti, ps, cs, ht, hp, h1, h2, rfl⟩ := hs
    exact goes_wp (goes_build tk r t parts ho ht hp h1 h2) hk
  · rename_i t n parts ho
    obtain ⟨rfl, ti, el, te, ps, cs, ht, hd, hte, hp, h1, h2, h3, h4, rfl⟩ := hs
    exact goes_wp (goes_buildSlice tk r t n parts ho ht hd hte hp h1 h2 h3 h4) hk
  · rename_i t x i ho
    obtain ⟨rfl, ti, k, n, ht, hi, hc⟩ := hs
    exact goes_wp (goes_index tk r t x i ho ht hi hc) hk
  · rename_i t x i ho
    obtain ⟨rfl, ti, k, n, ht, hi, hc⟩ := hs
    exact goes_wp (goes_indexAddr tk r t x i ho ht hi hc) hk
  · rename_i t x lo hi mx ho
    obtain ⟨rfl, ti, l, m, ht, rfl, h0, h1, hc⟩ := hs
    exact goes_wp (goes_slice tk r t x lo hi ho ht h0 h1 hc) hk
  · rename_i f first captured ho
    obtain ⟨rfl, fs, cs, h1, h2, rfl⟩ := hs
    refine goes_wp (T := T) (Goes.same r (x := .func (.func f) ⟨first.toList.map a.eval⟩ ⟨captured.toList.map a.eval⟩) ?_ ?_) hk
    · have e3 : ∀ l : Array Operand, l.map a.eval = ⟨l.toList.map a.eval⟩ := by intro l; apply Array.toList_inj.1; simp
      simp only [execOp, ho, Instr.makeFunc, Sem.run_bind, Sem.run_pure, Result.andThen_ok, e3]
    · show RepP _ _ _ _
      simp only [RepP]
      exact ⟨_, _, rfl, evPs_rep r _ _ h1, evPs_rep r _ _ h2⟩
  · rename_i c ho
    obtain ⟨rfl, hc⟩ := hs
    split at hc
    · rename_i hcl
      obtain ⟨t, x, ti, h1, h2, ht, h3⟩ := hc
      exact goes_wp (goes_len tk r c ho hcl h1 h2 ht h3) hk
    · rename_i hcl
      obtain ⟨x, y, k, m, n, h1, h2, h3, rfl⟩ := hc
      exact goes_wp (T := T) (goes_max r c ho hcl h1 h2 h3) hk
    · rename_i hcl
      obtain ⟨x, y, k, m, n, h1, h2, h3, rfl⟩ := hc
      exact goes_wp (T := T) (goes_min r c ho hcl h1 h2 h3) hk
    · rename_i f hcl
      obtain ⟨g, fs, cs, args, y, h1, h2, h3, rfl⟩ := hc
      exact call_wp r hG c f ho hcl h1 h2 h3 hk
    · cases hc
  · cases hs
end
end Go.Sx
