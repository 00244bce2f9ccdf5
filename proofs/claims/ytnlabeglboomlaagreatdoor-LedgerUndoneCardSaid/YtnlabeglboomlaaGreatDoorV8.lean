/- A part of a proof; the last text of this claim says of what. -/
import Derived.Test.YtnlabeglboomlaaGreatDoorV7
import Derived.MapKept
set_option linter.unusedVariables false
set_option linter.unusedSimpArgs false
set_option linter.unusedSectionVars false
namespace Go.Sx
open Go Go.RowKit Go.Shelf Go.Proofs
section
variable {P : Program} {G : World → Prop} {T : Tab} {ζ : Fr} {N : Nat} {own own' : Nat → Nat} {e : Env} {h h' : Hp} {a : Act} {w w' : World} {o : Oper} {v : SV}
def Goes (P : Program) (T : Tab) (ζ : Fr) (N : Nat) (e : Env) (h' : Hp) (a : Act) (w : World) (o : Oper) (v : SV) : Prop :=
  ∃ own' x w', ((execOp a.eval o).run P w = .ok (.value x) w' ∨ ((execOp a.eval o).run P w = .ok .skip w' ∧ x = undef)) ∧ R ζ N own' e h' a w' ∧ RepS ζ own' h' w' v x
theorem Goes.same (r : R ζ N own e h a w) {x : Value} (hr : (execOp a.eval o).run P w = .ok (.value x) w) (hv : RepS ζ own h w v x) : Goes P T ζ N e h a w o v :=
  ⟨own, x, w, .inl hr, r, hv⟩
theorem goes_alloc (tk : TOk P T) (r : R ζ N own e h a w) (t : TypeId) (ho : o.op = .alloc t) {nm : Nat} {ti : TI} (ht : T t = some ti) (hN : nm < N) (hn : h nm = none) : Goes P T ζ N e (upd h nm (some (t, ti.zero))) a w o (.box nm 0) := by
  obtain ⟨z, h1, h2⟩ := (tk.ok t ti ht).run_zero
  refine ⟨upd own nm w.heap.size, .pointer (some ⟨w.heap.size, 0, none⟩), _, .inl ?_, r.alloc nm t ti.zero z.cells.toList hN hn (h2 _ _), ?_⟩
  · simp [execOp, ho, Instr.alloc, h1, newVar, newRow]
  · exact ⟨by rw [upd_same]; simp, by rw [upd_same]⟩
theorem goes_box (r : R ζ N own e h a w) (t : TypeId) (x : Operand) (ho : o.op = .box t x) {nm : Nat} {y : PV} {cs : List PV} (hx : evO e x = .p y) (hc : cellsP y = some cs) (hN : nm < N) (hn : h nm = none) :
    Goes P T ζ N e (upd h nm (some (t, cs))) a w o (.box nm 0) := by
  have h2 := cellsP_rep hc (ev_p r hx)
  refine ⟨upd own nm w.heap.size, .pointer (some ⟨w.heap.size, 0, none⟩), _, .inl ?_, r.alloc nm t cs (a.eval x).cells.toList hN hn h2, ?_⟩
  · simp [execOp, ho, Instr.box, newVar, newRow]
  · exact ⟨by rw [upd_same]; simp, by rw [upd_same]⟩
theorem goes_load (tk : TOk P T) (r : R ζ N own e h a w) (t : TypeId) (x : Operand) (ho : o.op = .load t x) (hp : isPtr (evO e x) = true) {ti : TI} {y : PV} (ht : T t = some ti) (hl : loadP ti (cellsAt ζ.ρ h (evO e x)) = some y) :
    Goes P T ζ N e h a w o (.p y) := by
  obtain ⟨b, of, vs, h1, h2, h3⟩ := ptr_cells r hp
  obtain ⟨z, h4, h5⟩ := loadVar_run (tk.ok t ti ht) h2 h3 hl
  exact Goes.same r (x := z) (by simp [execOp, ho, Instr.loadAt, Instr.sureAddr, h1, h4]) h5
theorem goes_store (tk : TOk P T) (r : R ζ N own e h a w) (t : TypeId) (x y : Operand) (ho : o.op = .store t x y) {ti : TI} {nm off : Nat} {T0 : TypeId} {cs : List PV} {z : PV} {zs : List PV} (ht : T t = some ti) (hx : evO e x = .box nm off) (hh : h nm = some (T0, cs))
    (hy : evO e y = .p z) (hc : cellsP z = some zs) (hs : zs.length = ti.size) (hfit : off + zs.length ≤ cs.length) (hl : zs.all leafP = true) :
    Goes P T ζ N e (upd h nm (some (T0, cs.take off ++ zs ++ cs.drop (off + zs.length)))) a w o (.p (.val undef)) := by
  obtain ⟨_, e1⟩ := ev_box r hx
  have h2 := cellsP_rep hc (ev_p r hy)
  obtain ⟨g1, g2, vs, g3, g4⟩ := r.box nm T0 cs hh
  have hlen := h2.length
  have hlen2 := g4.length
  have h3 := leaf_one h2 hl
  have hst := run_storeCells_at P (own nm) off T0 (a.eval y).cells.toList 0 ⟨vs⟩ w g3 (by simp; rw [Array.length_toList] at hlen; omega) h3
  refine ⟨own, undef, _, .inr ⟨?_, rfl⟩, r.store nm T0 cs _ (vs.take off ++ (a.eval y).cells.toList ++ vs.drop (off + zs.length)) hh ?_, ?_⟩
  · have hsz : (a.eval y).cells.size = ti.size := by rw [← Array.length_toList, hlen, hs]
    simp only [execOp, ho, Instr.storeAt, Instr.sureAddr, e1, storeVar, Sem.run_bind, Sem.run_pure, Result.andThen_ok, (tk.ok t ti ht).run_size, hsz, ne_eq, not_true_eq_false, if_false, Sem.run_ite, run_stuck]
    rw [hst]
    simp only [Result.andThen_ok, Nat.add_zero, hlen]
  · exact ((g4.take off).append h2).append (g4.drop _)
  · show RepP _ _ _ _
    simp only [RepP]
theorem findNow_mp (n : Int) : ∀ (es : List MapEntry) (l : List (Int × FuncId)) (i : Nat) (g : FuncId), es.map (fun e => (e.key, e.val)) = l.map (fun x => (Value.int .u8 x.1, Value.func (.func x.2) ⟨[]⟩ ⟨[]⟩)) → mpGet l n = some g →
    ∃ j, Instr.findNow (.int .u8) (.int .u8 n) es i = some (some (j, .func (.func g) ⟨[]⟩ ⟨[]⟩))
  | [], [], i, g, _, h => by simp [mpGet] at h
  | [], _ :: _, i, g, h, _ => by simp at h
  | _ :: _, [], i, g, h, _ => by simp at h
  | e :: es, x :: l, i, g, h, hg => by
    simp only [List.map_cons, List.cons.injEq, Prod.mk.injEq] at h
    obtain ⟨⟨h1, h2⟩, h3⟩ := h
    simp only [mpGet] at hg
    by_cases hn : n = x.1
    · rw [if_pos hn] at hg
      simp only [Option.some.injEq] at hg
      subst hg
      exact ⟨i, by simp [Instr.findNow, h1, Instr.sameNow, hn, h2]⟩
    · rw [if_neg hn] at hg
      obtain ⟨j, hj⟩ := findNow_mp n es l (i + 1) g h3 hg
      exact ⟨j, by simp [Instr.findNow, h1, Instr.sameNow, beq_eq_false_iff_ne.2 hn, hj]⟩
theorem tdB_map {d : TypeDesc} {k : TypeId} (h : tdB d (.map k) = true) : ∃ em, d = .map k em := by
  cases d <;> simp [tdB] at h
  exact ⟨_, by rw [h]⟩
theorem tdB_u8 {d : TypeDesc} (h : tdB d (.int .u8) = true) : d = .int .u8 := by
  cases d <;> simp [tdB] at h
  rename_i k
  cases k <;> first | rfl | (exact absurd h (by decide))
theorem goes_lookup (tk : TOk P T) (r : R ζ N own e h a w) (t : TypeId) (x i : Operand) (ho : o.op = .lookup t x i false) {ti te : TI} {kt : TypeId} {l : List (Int × FuncId)} {n : Int} {g : FuncId}
    (ht : T t = some ti) (hd : ti.d = .map kt) (hte : T kt = some te) (hk1 : te.d = .int .u8) (hx : evO e x = .p (.mp l)) (hi : evO e i = .p (.val (.int .u8 n))) (hg : mpGet l n = some g) : Goes P T ζ N e h a w o (.p (.clo g [] [])) := by
  have h1 := ev_p r hx
  simp only [RepP] at h1
  obtain ⟨b, es, c, e1, _, hb, h2⟩ := h1
  obtain ⟨d, h3, h4, _⟩ := (tk.ok t ti ht).desc
  obtain ⟨d2, h5, h6, _⟩ := (tk.ok kt te hte).desc
  rw [hd] at h4
  rw [hk1] at h6
  obtain ⟨j, hj⟩ := findNow_mp n es.toList l 0 g h2 hg
  obtain ⟨em, rfl⟩ := tdB_map h4
  obtain rfl := tdB_u8 h6
  refine Goes.same r (x := .func (.func g) ⟨[]⟩ ⟨[]⟩) ?_ ?_
  · have hi := ev_val r hi
    simp [execOp, ho, Instr.lookup, run_underlying h3, e1, hi, MapKept.run_getObj_map hb, MapKept.run_checkKey (k := .int .u8 n) h5 (by simp [MapKept.IsKey]), MapKept.run_findKey h5 hj, Result.andThen]
  · show RepP _ _ _ _
    simp only [RepP, RepL]
    exact ⟨[], [], rfl, rfl, rfl⟩
theorem goes_extract (r : R ζ N own e h a w) (x : Operand) (i : Nat) (ho : o.op = .extract x i) {vs : List PV} {y : PV} (hx : evO e x = .p (.tup vs)) (hy : vs[i]? = some y) : Goes P T ζ N e h a w o (.p y) := by
  have h1 := ev_p r hx
  simp only [RepP] at h1
  obtain ⟨us, e1, h2⟩ := h1
  obtain ⟨u, hu, h3⟩ := h2.get i y hy
  refine Goes.same r (x := u) ?_ h3
  simp [execOp, ho, Instr.extract, e1, hu]
theorem goes_pick (r : R ζ N own e h a w) (c x y : Operand) (ho : o.op = .pick c x y) {t : Bool} (hc : evO e c = .p (.val (.bool t))) : Goes P T ζ N e h a w o (if t then evO e x else evO e y) := by
  have h1 := ev_val r hc
  refine Goes.same r (x := if t then a.eval x else a.eval y) ?_ ?_
  · simp [execOp, ho, h1, asBool]
  · cases t
    · exact ev_sound r y
    · exact ev_sound r x
theorem goes_unop (r : R ζ N own e h a w) (op : UnOp) (t : TypeId) (x : Operand) (ho : o.op = .unOp op t x)
    (hs : (∃ b, op = .not ∧ evO e x = .p (.val (.bool b)) ∧ v = .p (.val (.bool !b))) ∨ (∃ k n, op = .neg ∧ evO e x = .p (.val (.int k n)) ∧ v = .p (.val (.int k (k.wrap (0 - n)))))) : Goes P T ζ N e h a w o v := by
  rcases hs with ⟨b, rfl, hx, rfl⟩ | ⟨k, n, rfl, hx, rfl⟩
  · have h1 := ev_val r hx
    exact Goes.same r (x := .bool !b) (by simp [execOp, ho, h1, Op.unary]) (by show RepP _ _ _ _; simp only [RepP])
  · have h1 := ev_val r hx
    exact Goes.same r (x := .int k (k.wrap (0 - n))) (by simp [execOp, ho, h1, Op.unary, Op.intArith]) (by show RepP _ _ _ _; simp only [RepP])
theorem field_of (tk : TOk P T) {t : TypeId} {ti : TI} {f off : Nat} {tf : TI} (ht : T t = some ti) (hf : fieldOff T ti f = some (off, tf)) :
    ∃ fs : Array Field, ∃ fl : Field, (∀ W, (underlying t).run P W = .ok (.struct fs) W) ∧ fs[f]? = some fl ∧ fl.offset = off ∧ T fl.type = some tf := by
  obtain ⟨d, h1, h2, h3⟩ := (tk.ok t ti ht).run_under
  unfold fieldOff at hf
  split at hf
  · rename_i fs hfs
    rw [hfs] at h2
    cases d <;> simp [tdB] at h2
    rename_i gs
    split at hf
    · rename_i of ty hg
      split at hf
      · rename_i tf' htf
        simp only [Option.some.injEq, Prod.mk.injEq] at hf
        obtain ⟨rfl, rfl⟩ := hf
        rw [← h2] at hg
        simp only [List.getElem?_map, Option.map_eq_some_iff, Prod.mk.injEq] at hg
        obtain ⟨fl, hfl, e1, e2⟩ := hg
        exact ⟨gs, fl, h1, by simpa using hfl, e1, by rw [e2]; exact htf⟩
      · cases hf
    · cases hf
  · cases hf
theorem shift_sound (r : R ζ N own e h a w) {x : Operand} (hp : isPtr (evO e x) = true) (n : Nat) : ∃ b o, a.eval x = .pointer (some ⟨b, o, none⟩) ∧ RepS ζ own h w (shiftS n (evO e x)) (.pointer (some ⟨b, o + n, none⟩)) := by
  have hx := ev_sound r x
  cases hs : evO e x with
  | any => rw [hs] at hp; cases hp
  | orow nm => rw [hs] at hp; cases hp
  | p y =>
    rw [hs] at hp hx
    cases y with
    | ptr cs =>
      have hx : RepP _ _ _ _ := hx
      simp only [RepP] at hx
      obtain ⟨b, o, e1, hb, hr⟩ := hx
      refine ⟨b, o, e1, ?_⟩
      show RepP _ _ _ _
      simp only [RepP]
      exact ⟨b, o + n, rfl, hb, hr.drop n⟩
    | _ => cases hp
  | rowp nm off =>
    rw [hs] at hx
    obtain ⟨hn, g, hg, e1⟩ := hx
    exact ⟨g, off, e1, hn, g, hg, rfl⟩
  | box nm off =>
    rw [hs] at hx
    obtain ⟨hn, e1⟩ := hx
    exact ⟨own nm, off, e1, hn, rfl⟩
theorem goes_fieldAddr (tk : TOk P T) (r : R ζ N own e h a w) (t : TypeId) (x : Operand) (f : Nat) (ho : o.op = .fieldAddr t x f) {ti tf : TI} {off : Nat} (ht : T t = some ti) (hf : fieldOff T ti f = some (off, tf)) (hz : tf.size ≠ 0) (hp : isPtr (evO e x) = true) :
    Goes P T ζ N e h a w o (shiftS off (evO e x)) := by
  obtain ⟨fs, fl, h1, h2, h3, h4⟩ := field_of tk ht hf
  have hrun : ∀ b of, (Instr.fieldAt t (.pointer (some ⟨b, of, none⟩)) f).run P w = .ok (.pointer (some ⟨b, of + off, none⟩)) w := by
    intro b of
    simp [Instr.fieldAt, h1, h2, Instr.sureAddr, fieldPlace, (tk.ok _ _ h4).run_size, hz, add_plain', h3]
  obtain ⟨b, of, e1, hv⟩ := shift_sound r hp off
  exact Goes.same r (x := .pointer (some ⟨b, of + off, none⟩)) (by simp [execOp, ho, e1, hrun]) hv
theorem part_run {ti : TI} {t : TypeId} (tk : TiOk P t ti) {B : Nat → Prop} {cs : List PV} {vs : List Value} {off : Nat} {y : PV} (hr : RepL B w cs vs) (hfit : off + ti.size ≤ cs.length) (hl : loadP ti (cs.drop off) = some y) :
    ∃ x, (part t ⟨vs⟩ off).run P w = .ok x w ∧ RepP B w y x := by
  unfold loadP at hl
  have hlen := hr.length
  split at hl
  · rename_i hagg
    split at hl
    · cases hl
      refine ⟨.agg ⟨(vs.drop off).take ti.size⟩, ?_, ?_⟩
      · simp only [part, Sem.run_bind, tk.run_isAgg, Result.andThen_ok, hagg, if_true, tk.run_size]
        simp
      · simp only [RepP]
        exact ⟨_, rfl, (hr.drop off).take _⟩
    · cases hl
  · rename_i hagg
    cases hd : cs.drop off with
    | nil => rw [hd] at hl; simp at hl
    | cons c ds =>
      rw [hd] at hl
      simp only [List.head?_cons, Option.some.injEq] at hl
      subst hl
      have hc : cs[off]? = some c := by
        have := List.getElem?_drop (xs := cs) (i := off) (j := 0)
        rw [hd] at this
        simpa using this.symm
      obtain ⟨x, hx, h1⟩ := hr.get off c hc
      refine ⟨x, ?_, h1⟩
      simp [part, tk.run_isAgg, hagg, hx]
theorem goes_field (tk : TOk P T) (r : R ζ N own e h a w) (t : TypeId) (x : Operand) (f : Nat) (ho : o.op = .field t x f) {ti tf : TI} {off : Nat} {cs : List PV} {y : PV} (ht : T t = some ti) (hf : fieldOff T ti f = some (off, tf)) (hx : evO e x = .p (.agg cs)) (hfit : off + tf.size ≤ cs.length)
    (hl : loadP tf (cs.drop off) = some y) : Goes P T ζ N e h a w o (.p y) := by
  obtain ⟨fs, fl, h1, h2, h3, h4⟩ := field_of tk ht hf
  have hv := ev_p r hx
  simp only [RepP] at hv
  obtain ⟨vs, e1, hr⟩ := hv
  obtain ⟨z, h5, h6⟩ := part_run (tk.ok _ _ h4) hr hfit hl
  exact Goes.same r (x := z) (by simp [execOp, ho, e1, Instr.field, h1, h2, asAgg, h3, h5]) h6
end
end Go.Sx
