/- A part of a proof; the last text of this claim says of what. -/
import Derived.Test.YtnlabeglboomlaaGreatDoorV9
import Derived.Great.BuildSlice
set_option linter.unusedVariables false
set_option linter.unusedSimpArgs false
set_option linter.unusedSectionVars false
namespace Go.Sx
open Go Go.RowKit Go.Shelf Go.Proofs
theorem foldl_set (off : Nat) : ∀ (xs : List Value) (k : Nat) (cells : Array Value), off + k + xs.length ≤ cells.size →
    ((xs.zipIdx k).foldl (fun cs (x : Value × Nat) => cs.setIfInBounds (off + x.2) x.1) cells).toList = cells.toList.take (off + k) ++ xs ++ cells.toList.drop (off + k + xs.length)
  | [], k, cells, _ => by simp
  | x :: xs, k, cells, hl => by
    simp only [List.length_cons] at hl
    rw [List.zipIdx_cons, List.foldl_cons, foldl_set off xs (k + 1) _ (by simp; omega)]
    have := list_seg_step cells.toList (off + k) x xs (by simp; omega)
    simpa [Array.toList_setIfInBounds, Nat.add_assoc] using this
section
variable {P : Program} {G : World → Prop} {T : Tab} {ζ : Fr} {N : Nat} {own own' : Nat → Nat} {e : Env} {h h' : Hp} {a : Act} {w w' : World} {o : Oper} {v : SV}
def RepParts (B : Nat → Prop) (w : World) : List (Nat × PV) → List (Nat × Value) → Prop
  | [], vs => vs = []
  | (i, x) :: ps, vs => ∃ y r, vs = (i, y) :: r ∧ RepP B w x y ∧ RepParts B w ps r
theorem fill_rep {B : Nat → Prop} {d : TD} {place : Nat → Option (Nat × Nat)} (hpl : ∀ i off size, placeP T d i = some (off, size) → place i = some (off, size)) :
    ∀ (ps : List (Nat × PV)) (vs : List (Nat × Value)) (cs cs' : List PV) (us : List Value), RepParts B w ps vs → RepL B w cs us → fillP T d cs ps = some cs' →
      ∃ us', Instr.fill place ⟨us⟩ vs = some ⟨us'⟩ ∧ RepL B w cs' us'
  | [], vs, cs, cs', us, hp, hc, hf => by
    simp only [RepParts] at hp
    simp only [fillP, Option.some.injEq] at hf
    subst hp; subst hf
    exact ⟨us, rfl, hc⟩
  | (i, x) :: ps, vs, cs, cs', us, hp, hc, hf => by
    simp only [RepParts] at hp
    obtain ⟨y, r, rfl, h1, h2⟩ := hp
    simp only [fillP] at hf
    split at hf
    · rename_i off size xs hpl' hxs
      split at hf
      · rename_i hsz
        have h3 := cellsP_rep hxs h1
        have hl := h3.length
        have hl2 := hc.length
        obtain ⟨us', h4, h5⟩ := fill_rep hpl ps r _ cs' _ h2 (((hc.take off).append h3).append (hc.drop (off + size))) hf
        refine ⟨us', ?_, h5⟩
        rw [Instr.fill, hpl i off size hpl']
        rw [Array.length_toList] at hl
        have hb : (y.cells.size ≠ size || off + y.cells.size > (⟨us⟩ : Array Value).size) = false := by
          simp; omega
        simp only [hb, Bool.false_eq_true, if_false]
        rw [← h4]
        congr 1
        apply Array.toList_inj.1
        rw [← Array.foldl_toList, Array.toList_zipIdx]
        have := foldl_set off y.cells.toList 0 ⟨us⟩ (by simp; omega)
        simp only [Nat.add_zero, Array.length_toList] at this
        rw [this]
        simp only [hl, hsz.1]
      · cases hf
    · cases hf
theorem parts_rep (r : R ζ N own e h a w) : ∀ (xs : List (Nat × Operand)) (ps : List (Nat × PV)), partsP e xs = some ps → RepParts (Bk ζ own h w) w ps (xs.map fun x => (x.1, a.eval x.2))
  | [], ps, hp => by simp only [partsP, Option.some.injEq] at hp; subst hp; simp [RepParts]
  | (i, x) :: xs, ps, hp => by
    simp only [partsP] at hp
    split at hp
    · rename_i y ys hy hys
      cases hp
      simp only [RepParts, List.map_cons]
      exact ⟨_, _, rfl, ev_p r hy, parts_rep r xs ys hys⟩
    · cases hp
theorem places_of (tk : TOk P T) : ∀ (fs : List Field), (fs.all fun f => (T f.type).isSome) = true → ∃ places, fs.mapM (fun f => (P.info? f.type).map fun i => (f.offset, i.size)) = some places ∧
    ∀ (i : Nat) (f : Field), fs[i]? = some f → ∀ tf, T f.type = some tf → places[i]? = some (f.offset, tf.size)
  | [], _ => ⟨[], by simp, by simp⟩
  | f :: fs, hall => by
    simp only [List.all_cons, Bool.and_eq_true] at hall
    obtain ⟨places, h1, h2⟩ := places_of tk fs hall.2
    obtain ⟨tf, htf⟩ := Option.isSome_iff_exists.1 hall.1
    obtain ⟨i, zv, h3, h4, _⟩ := (tk.ok _ _ htf).info
    refine ⟨(f.offset, tf.size) :: places, ?_, ?_⟩
    · simp [List.mapM_cons, h3, h4, h1]
    · intro j g hj tg htg
      cases j with
      | zero =>
        simp at hj
        subst hj
        rw [htf] at htg; cases htg; rfl
      | succ j => simpa using h2 j g (by simpa using hj) tg htg
theorem goes_build (tk : TOk P T) (r : R ζ N own e h a w) (t : TypeId) (parts : Array (Nat × Operand)) (ho : o.op = .build t parts) {ti : TI} {ps : List (Nat × PV)} {cs : List PV} (ht : T t = some ti) (hp : partsP e parts.toList = some ps) (hk : partsOk T ti.d = true)
    (hf : fillP T ti.d ti.zero ps = some cs) : Goes P T ζ N e h a w o (.p (.agg cs)) := by
  have hv := parts_rep r _ _ hp
  obtain ⟨i, zv, g1, g2, g3, g4⟩ := (tk.ok t ti ht).info
  obtain ⟨d, d1, -, d2⟩ := (tk.ok t ti ht).desc_eq
  suffices hs : ∃ us, P.built t (parts.toList.map fun x => (x.1, a.eval x.2)) = some ⟨us⟩ ∧ RepL (Bk ζ own h w) w cs us by
    obtain ⟨us, h1, h2⟩ := hs
    refine Goes.same r (x := .agg ⟨us⟩) ?_ (by show RepP _ _ _ _; simp only [RepP]; exact ⟨us, rfl, h2⟩)
    have := run_build (P := P) w t (parts.map fun x => (x.1, a.eval x.2)) ⟨us⟩ (by rw [Array.toList_map]; exact h1)
    simp only [execOp, ho, Sem.run_bind]
    rw [this]
    rfl
  cases hd : ti.d with
  | struct fs =>
    rw [hd] at d2 hk hf
    cases d <;> simp [tdB] at d2
    rename_i fields
    simp only [partsOk] at hk
    rw [← d2, List.all_map] at hk
    obtain ⟨places, p1, p2⟩ := places_of tk fields.toList hk
    obtain ⟨us', h1, h2⟩ := fill_rep (T := T) (B := Bk ζ own h w) (w := w) (d := .struct fs) (place := (places.toArray[·]?)) (by
      intro i off size hm
      simp only [placeP] at hm
      split at hm
      · rename_i of ty hfs
        split at hm
        · rename_i tf htf
          simp only [Option.some.injEq, Prod.mk.injEq] at hm
          obtain ⟨rfl, rfl⟩ := hm
          rw [← d2] at hfs
          simp only [List.getElem?_map, Option.map_eq_some_iff, Prod.mk.injEq] at hfs
          obtain ⟨f, hf1, rfl, rfl⟩ := hfs
          simpa using p2 i f hf1 tf htf
        · cases hm
      · cases hm) ps _ ti.zero cs _ hv (g4 _ _) hf
    exact ⟨us', by unfold Program.built; rw [g1, d1]; dsimp only; rw [g3, p1]; exact h1, h2⟩
  | array n el =>
    rw [hd] at d2 hk hf
    cases d <;> simp [tdB] at d2
    obtain ⟨rfl, rfl⟩ := d2
    simp only [partsOk] at hk
    rename_i m el
    obtain ⟨te, hte⟩ := Option.isSome_iff_exists.1 hk
    obtain ⟨ie, ze, e1, e2, _⟩ := (tk.ok _ _ hte).info
    obtain ⟨us', h1, h2⟩ := fill_rep (T := T) (B := Bk ζ own h w) (w := w) (d := .array m el) (place := fun i => some (i * ie.size, ie.size)) (by
      intro i off size hm
      simp only [placeP, hte] at hm
      rw [e2]
      exact hm) ps _ ti.zero cs _ hv (g4 _ _) hf
    exact ⟨us', by unfold Program.built; rw [g1, d1]; dsimp only; rw [g3, e1]; exact h1, h2⟩
  | _ => rw [hd] at hk; simp [partsOk] at hk
theorem range_mod (z : List Value) (n : Nat) : (List.range (n * z.length)).map (fun i => z[i % z.length]!) = (List.replicate n z).flatten := by
  by_cases hz : z.length = 0
  · rw [hz]; have : z = [] := List.length_eq_zero_iff.1 hz; subst this; simp
  · induction n with
    | zero => simp
    | succ n ih =>
      rw [List.replicate_succ', List.flatten_append, ← ih, Nat.succ_mul, List.range_add, List.map_append, List.map_map]
      congr 1
      simp only [List.flatten_cons, List.flatten_nil, List.append_nil]
      apply List.ext_getElem
      · simp
      · intro i h1 h2
        simp at h1
        simp only [List.getElem_map, List.getElem_range, Function.comp]
        rw [Nat.mul_comm n, Nat.mul_add_mod, Nat.mod_eq_of_lt h1]
        exact getElem!_pos z i h1
theorem rep_rep {B : Nat → Prop} {cs : List PV} {vs : List Value} (hr : RepL B w cs vs) : ∀ n, RepL B w (rep n cs) ((List.replicate n vs).flatten)
  | 0 => by simp [rep, RepL]
  | n + 1 => by
    have := rep_rep hr n
    unfold rep at this ⊢
    rw [List.replicate_succ, List.replicate_succ, List.flatten_cons, List.flatten_cons]
    exact hr.append this
theorem goes_buildSlice (tk : TOk P T) (r : R ζ N own e h a w) (t : TypeId) (n : Nat) (parts : Array (Nat × Operand)) (ho : o.op = .buildSlice t n parts) {ti te : TI} {el : TypeId} {ps : List (Nat × PV)} {cs : List PV} (ht : T t = some ti) (hd : ti.d = .slice el) (hte : T el = some te) (hp : partsP e parts.toList = some ps)
    (hs1 : n * te.size ≤ 16777216) (hs2 : n * te.size ≠ 0) (hzl : te.zero.length = te.size) (hf : fillP T (.slice el) (rep n te.zero) ps = some cs) {y : PV} (hy : y = .sl n cs ∨ y = .fl n cs) : Goes P T ζ N e h a w o (.p y) := by
  have hv := parts_rep r _ _ hp
  have hu := under_slice (tk.ok t ti ht) hd
  obtain ⟨ie, zv, e1, e2, e3, e4⟩ := (tk.ok _ _ hte).info
  have hzz := (e4 (fun _ => True) w).length
  rw [hzl, ← e2] at hzz
  obtain ⟨us', h1, h2⟩ := fill_rep (T := T) (B := Bk ζ own h w) (w := w) (d := .slice el) (place := fun i => some (i * ie.size, ie.size)) (by
    intro i off size hm
    simp only [placeP, hte] at hm
    rw [e2]
    exact hm) ps _ (rep n te.zero) cs _ hv (rep_rep (e4 _ _) n) hf
  have hrun := run_buildSlice (P := P) w t el n (parts.map fun x => (x.1, a.eval x.2)) ⟨us'⟩ ie zv hu e1 e3 (by rw [e2]; omega) (by rw [e2]; exact hs2) (by
    rw [Array.toList_map, ← h1]
    congr 1
    apply Array.toList_inj.1
    have h6 := range_mod zv.cells.toList n
    rw [hzz] at h6
    rw [← h6]
    simp only [Array.toList_map, Array.toList_range]
    rw [Array.length_toList] at hzz
    rw [hzz]
    apply List.map_congr_left
    intro i _
    simp [getElem!_def])
  have hbel : Below w.heap.size w (w.alloc (.cells ⟨us'⟩ el)) := (Below.refl _ _).alloc (Nat.le_refl _) _
  refine ⟨own, .slice (some ⟨w.heap.size, 0, none⟩) n n, _, .inl ?_, r.grow (grownBy_below hbel (Nat.le_refl _) none), ?_⟩
  · simp only [execOp, ho, Sem.run_bind]
    rw [hrun]
    rfl
  · show RepP _ _ _ _
    have hB : ∀ b, Bk ζ own h w b → Bk ζ own h (w.alloc (.cells ⟨us'⟩ el)) b ∧ (w.alloc (.cells ⟨us'⟩ el)).heap[b]? = w.heap[b]? := fun b hb' => Bk.grow hbel.block hbel.size hb'
    have key : ∃ b o, some (⟨w.heap.size, 0, none⟩ : Addr) = some ⟨b, o, none⟩ ∧ Bk ζ own h (w.alloc (.cells ⟨us'⟩ el)) b ∧ RepC (Bk ζ own h (w.alloc (.cells ⟨us'⟩ el))) (w.alloc (.cells ⟨us'⟩ el)) cs b o := by
      refine ⟨w.heap.size, 0, rfl, ⟨.inr r.below.size, by simp, ?_, ?_, ?_⟩, ?_⟩
      · intro nm hn
        have := r.own_lt hn; omega
      · intro nm hn e1
        have := r.row_lt hn e1; omega
      · intro e1
        have := r.obl _ e1; have := r.below.size; omega
      · refine RepC.of_vals (RepL.mono hB cs us' h2) ?_
        intro j v hj
        have : (w.alloc (.cells ⟨us'⟩ el)).heap[w.heap.size]? = some (.cells ⟨us'⟩ el (0, 0)) := by show (w.heap.push _)[w.heap.size]? = _; simp
        simp only [World.cell?, this]
        simpa using hj
    rcases hy with rfl | rfl
    · simp only [RepP]
      exact ⟨_, n, rfl, Nat.le_refl _, .inr (by simp), .inr key⟩
    · simp only [RepP]
      exact ⟨_, rfl, .inr (by simp), .inr key⟩
end
end Go.Sx
