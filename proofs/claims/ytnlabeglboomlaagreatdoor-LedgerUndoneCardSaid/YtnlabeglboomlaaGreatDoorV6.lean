/- A part of a proof; the last text of this claim says of what. -/
import Derived.Test.YtnlabeglboomlaaGreatDoorV5
set_option linter.unusedVariables false
set_option linter.unusedSimpArgs false
set_option linter.unusedSectionVars false
namespace Go.Sx
open Go Go.RowKit Go.Shelf Go.Proofs
structure Meets (P : Program) (G : World → Prop) (f : FuncId) (args : List PV) (r : PV) : Prop where
  ent : Enters P f
  calls : ∀ (B : Nat → Prop) (vs : List Value) (w : World), (∀ b, B b → b < w.heap.size) → RepL B w args vs → G w →
    Calls P f ⟨vs⟩ w fun en w' => ∃ v, en = .returned v ∧ RepP (fun b => (B b ∨ w.heap.size ≤ b) ∧ b < w'.heap.size) w' r v ∧ Below w.heap.size w w'
def fieldOff (T : Tab) (ti : TI) (f : Nat) : Option (Nat × TI) :=
  match ti.d with
  | .struct fs => match fs[f]? with
    | some (off, t) => (match T t with | some tf => some (off, tf) | none => none)
    | none => none
  | _ => none
def placeP (T : Tab) (d : TD) (i : Nat) : Option (Nat × Nat) :=
  match d with
  | .struct fs => (match fs[i]? with | some (off, t) => (match T t with | some tf => some (off, tf.size) | none => none) | none => none)
  | .array _ e | .slice e => (match T e with | some te => some (i * te.size, te.size) | none => none)
  | _ => none
def fillP (T : Tab) (d : TD) (cells : List PV) : List (Nat × PV) → Option (List PV)
  | [] => some cells
  | (i, x) :: rest =>
    match placeP T d i, cellsP x with
    | some (off, size), some xs => if xs.length = size ∧ off + size ≤ cells.length then fillP T d (cells.take off ++ xs ++ cells.drop (off + size)) rest else none
    | _, _ => none
def partsOk (T : Tab) : TD → Bool
  | .struct fs => fs.all fun f => (T f.2).isSome
  | .array _ e => (T e).isSome
  | _ => false
def partsP (e : Env) : List (Nat × Operand) → Option (List (Nat × PV))
  | [] => some []
  | (i, x) :: xs => match evO e x, partsP e xs with | .p y, some ys => some ((i, y) :: ys) | _, _ => none
def isPtr : SV → Bool
  | .box _ _ | .rowp _ _ | .p (.ptr _) => true
  | _ => false
def bndP (e : Env) (x : Option Operand) (d : Int) : Option Int := match x with
  | none => some d
  | some x => (match evO e x with | .p (.val (.int _ n)) => some n | _ => none)
def bytesP : List PV → Option (List UInt8)
  | [] => some []
  | .val (.int .u8 n) :: r => (match bytesP r with | some l => some (UInt8.ofNat n.toNat :: l) | none => none)
  | _ => none
def rep (n : Nat) (l : List PV) : List PV := (List.replicate n l).flatten
def Sop (P : Program) (G : World → Prop) (T : Tab) (ρ : Rws) (o : Oper) (e : Env) (h : Hp) (v : SV) (h' : Hp) : Prop :=
  match o.op with
  | .move x | .assign x => v = evO e x ∧ h' = h
  | .pick c x y => ∃ t, evO e c = .p (.val (.bool t)) ∧ v = (if t then evO e x else evO e y) ∧ h' = h
  | .alloc t => ∃ nm ti, o.dst = some nm ∧ T t = some ti ∧ h nm = none ∧ v = .box nm 0 ∧ h' = upd h nm (some (t, ti.zero))
  | .box t x => ∃ nm y cs, o.dst = some nm ∧ evO e x = .p y ∧ cellsP y = some cs ∧ h nm = none ∧ v = .box nm 0 ∧ h' = upd h nm (some (t, cs))
  | .load t x => h' = h ∧ isPtr (evO e x) = true ∧ ∃ ti y, T t = some ti ∧ loadP ti (cellsAt ρ h (evO e x)) = some y ∧ v = .p y
  | .store t x y => ∃ ti nm off T0 cs z zs, T t = some ti ∧ evO e x = .box nm off ∧ h nm = some (T0, cs) ∧ evO e y = .p z ∧ cellsP z = some zs ∧ zs.length = ti.size ∧ off + zs.length ≤ cs.length ∧ zs.all leafP = true ∧
      h' = upd h nm (some (T0, cs.take off ++ zs ++ cs.drop (off + zs.length))) ∧ v = .p (.val undef)
  | .fieldAddr t x f => h' = h ∧ ∃ ti off tf, T t = some ti ∧ fieldOff T ti f = some (off, tf) ∧ tf.size ≠ 0 ∧ isPtr (evO e x) = true ∧ v = shiftS off (evO e x)
  | .field t x f => h' = h ∧ ∃ ti off tf cs y, T t = some ti ∧ fieldOff T ti f = some (off, tf) ∧ evO e x = .p (.agg cs) ∧ off + tf.size ≤ cs.length ∧ loadP tf (cs.drop off) = some y ∧ v = .p y
  | .binOp op t x y _ => h' = h ∧ ∃ a b c, evO e x = .p a ∧ evO e y = .p b ∧ binS T op t a b = some c ∧ v = .p (.val c)
  | .unOp op _ x => h' = h ∧ ((∃ b, op = .not ∧ evO e x = .p (.val (.bool b)) ∧ v = .p (.val (.bool !b))) ∨ (∃ k n, op = .neg ∧ evO e x = .p (.val (.int k n)) ∧ v = .p (.val (.int k (k.wrap (0 - n))))))
  | .lookup t x i ok => h' = h ∧ ∃ ti kt te l n g, T t = some ti ∧ ti.d = .map kt ∧ T kt = some te ∧ te.d = .int .u8 ∧ evO e x = .p (.mp l) ∧ evO e i = .p (.val (.int .u8 n)) ∧ mpGet l n = some g ∧ ok = false ∧ v = .p (.clo g [] [])
  | .extract x i => h' = h ∧ ∃ vs y, evO e x = .p (.tup vs) ∧ vs[i]? = some y ∧ v = .p y
  | .convert s d x => h' = h ∧ ∃ ts td, T s = some ts ∧ T d = some td ∧ ((∃ k n, td.d = .int k ∧ (∃ k', evO e x = .p (.val (.int k' n))) ∧ v = .p (.val (.int k (k.wrap n)))) ∨ (td.d = .string ∧ ts.d = .string ∧ (∃ y, evO e x = .p (.val (.string y)) ∧ v = .p (.val (.string y)))) ∨
      (∃ el te n cs l, td.d = .string ∧ ts.d = .slice el ∧ T el = some te ∧ te.d = .int .u8 ∧ te.size = 1 ∧ evO e x = .p (.sl n cs) ∧ cs.length = n ∧ bytesP cs = some l ∧ v = .p (.val (.string ⟨l.toArray⟩))))
  | .build t parts => h' = h ∧ ∃ ti ps cs, T t = some ti ∧ partsP e parts.toList = some ps ∧ partsOk T ti.d = true ∧ fillP T ti.d ti.zero ps = some cs ∧ v = .p (.agg cs)
  | .buildSlice t n parts => h' = h ∧ ∃ ti el te ps cs, T t = some ti ∧ ti.d = .slice el ∧ T el = some te ∧ partsP e parts.toList = some ps ∧ n * te.size ≤ 16777216 ∧ n * te.size ≠ 0 ∧ te.zero.length = te.size ∧ fillP T (.slice el) (rep n te.zero) ps = some cs ∧ v = .p (.sl n cs)
  | .index t x i => h' = h ∧ ∃ ti k n, T t = some ti ∧ evO e i = .p (.val (.int k (n : Nat))) ∧
      ((∃ s c, ti.d = .string ∧ evO e x = .p (.val (.string s)) ∧ s[n]? = some c ∧ v = .p (.val (.int .u8 (c.toNat : Int)))) ∨
       (∃ len el te cs y, ti.d = .array len el ∧ T el = some te ∧ n < len ∧ evO e x = .p (.agg cs) ∧ n * te.size + te.size ≤ cs.length ∧ loadP te (cs.drop (n * te.size)) = some y ∧ v = .p y))
  | .indexAddr t x i => h' = h ∧ ∃ ti k n, T t = some ti ∧ evO e i = .p (.val (.int k (n : Nat))) ∧
      ((∃ el te len cs, ti.d = .slice el ∧ T el = some te ∧ evO e x = .p (.sl len cs) ∧ n < len ∧ n * te.size < cs.length ∧ v = .p (.ptr (cs.drop (n * te.size)))) ∨
       (∃ el te len, ti.d = .array len el ∧ T el = some te ∧ n < len ∧ isPtr (evO e x) = true ∧ v = shiftS (n * te.size) (evO e x)) ∨
       (∃ el te nm q, ti.d = .slice el ∧ T el = some te ∧ evO e x = .orow nm ∧ ρ nm = some q ∧ n < q.n ∧ v = .rowp nm (n * te.size)))
  | .slice t x lo hi mx => h' = h ∧ ∃ ti l m, T t = some ti ∧ mx = none ∧ 0 ≤ l ∧ l ≤ m ∧
      ((∃ s : ByteArray, ti.d = .string ∧ evO e x = .p (.val (.string s)) ∧ bndP e lo 0 = some l ∧ bndP e hi (s.size : Nat) = some m ∧ m ≤ (s.size : Nat) ∧ v = .p (.val (.string (s.extract l.toNat m.toNat)))) ∨
       (∃ el te len cs, ti.d = .slice el ∧ T el = some te ∧ evO e x = .p (.sl len cs) ∧ bndP e lo 0 = some l ∧ bndP e hi (len : Nat) = some m ∧ m ≤ (len : Nat) ∧ v = .p (.sl (m.toNat - l.toNat) ((cs.take (m.toNat * te.size)).drop (l.toNat * te.size)))) ∨
       (∃ el te len cs, ti.d = .array len el ∧ T el = some te ∧ evO e x = .p (.ptr cs) ∧ bndP e lo 0 = some l ∧ bndP e hi (len : Nat) = some m ∧ m ≤ (len : Nat) ∧ v = .p (.sl (m.toNat - l.toNat) ((cs.take (m.toNat * te.size)).drop (l.toNat * te.size)))))
  | .makeFunc (.func f) first captured => h' = h ∧ ∃ fs cs, evPs e first.toList = some fs ∧ evPs e captured.toList = some cs ∧ v = .p (.clo f fs cs)
  | .makeSlice t l c => h' = h ∧ ∃ ti el te k k' n, T t = some ti ∧ ti.d = .slice el ∧ T el = some te ∧ evO e l = .p (.val (.int k n)) ∧ evO e c = .p (.val (.int k' n)) ∧ 0 ≤ n ∧ (te.bytes : Int) * n ≤ 281474976710656 ∧ n ≤ 9223372036854775807 ∧ v = .p (.fl n.toNat (rep n.toNat te.zero))
  | .call c => h' = h ∧ match c.callee with
    | .builtin .len => ∃ t x ti, c.argTypes[0]? = some t ∧ c.args.toList = [x] ∧ T t = some ti ∧
        ((∃ s, ti.d = .string ∧ evO e x = .p (.val (.string s)) ∧ v = .p (.val (.int .i64 (s.size : Nat)))) ∨ (∃ n cs el, ti.d = .slice el ∧ evO e x = .p (.sl n cs) ∧ v = .p (.val (.int .i64 (n : Nat)))) ∨ (∃ nm q el, ti.d = .slice el ∧ evO e x = .orow nm ∧ ρ nm = some q ∧ v = .p (.val (.int .i64 (q.n : Nat)))))
    | .builtin .max => ∃ x y k a b, c.args.toList = [x, y] ∧ evO e x = .p (.val (.int k a)) ∧ evO e y = .p (.val (.int k b)) ∧ v = .p (.val (.int k (if b > a then b else a)))
    | .builtin .min => ∃ x y k a b, c.args.toList = [x, y] ∧ evO e x = .p (.val (.int k a)) ∧ evO e y = .p (.val (.int k b)) ∧ v = .p (.val (.int k (if b < a then b else a)))
    | .builtin .append => ∃ s x t ti el te n m cs news, c.args.toList = [s, x] ∧ c.argTypes.toList = [t, t] ∧ T t = some ti ∧ ti.d = .slice el ∧ T el = some te ∧ evO e s = .p (.fl n cs) ∧ evO e x = .p (.sl m news) ∧ 0 < m ∧ cs.length = n * te.size ∧ news.length = m * te.size ∧ 0 < te.size ∧ n + m ≤ maxLen ∧ (n + m) * te.bytes ≤ 140737488355328 ∧ v = .p (.sl (n + m) (cs ++ news))
    | .value f => ∃ g fs cs args y, evO e f = .p (.clo g fs cs) ∧ evPs e c.args.toList = some args ∧ Meets P G g (fs ++ args ++ cs) y ∧ v = .p y
    | _ => False
  | .nilCheck x => h' = h ∧ isPtr (evO e x) = true ∧ v = evO e x
  | _ => False
section
variable {P : Program} {G : World → Prop} {T : Tab} {ζ : Fr} {N : Nat} {own own' : Nat → Nat} {e : Env} {h h' : Hp} {a : Act} {w w' : World}
theorem nzC_rep {B : Nat → Prop} (v : Value) : RepP B w (nzC v) v := by
  unfold nzC
  split
  · simp only [RepP]; exact ⟨none, 0, rfl, Nat.le_refl _, by simp, by simp⟩
  · simp only [RepP]
theorem ev_sound (r : R ζ N own e h a w) (x : Operand) : RepS ζ own h w (evO e x) (a.eval x) := by
  cases x with
  | tmp t => exact r.tmp t
  | const v => exact nzC_rep v
  | func f => show RepP _ _ _ _; simp only [RepP, Act.eval, RepL]; exact ⟨[], [], rfl, rfl, rfl⟩
  | global g => trivial
theorem ev_p (r : R ζ N own e h a w) {x : Operand} {y : PV} (hx : evO e x = .p y) : RepP (Bk ζ own h w) w y (a.eval x) := by
  have := ev_sound r x; rw [hx] at this; exact this
theorem ev_val (r : R ζ N own e h a w) {x : Operand} {v : Value} (hx : evO e x = .p (.val v)) : a.eval x = v := by
  have := ev_p r hx; simpa only [RepP] using this
theorem ev_box (r : R ζ N own e h a w) {x : Operand} {nm off : Nat} (hx : evO e x = .box nm off) : h nm ≠ none ∧ a.eval x = .pointer (some ⟨own nm, off, none⟩) := by
  have := ev_sound r x; rw [hx] at this; exact this
theorem ev_orow (r : R ζ N own e h a w) {x : Operand} {nm : Nat} (hx : evO e x = .orow nm) : ζ.ρ nm ≠ none ∧ a.eval x = ζ.rv nm := by
  have := ev_sound r x; rw [hx] at this; exact this
theorem cellsP_rep {B : Nat → Prop} {x : PV} {cs : List PV} {v : Value} (hc : cellsP x = some cs) (hv : RepP B w x v) : RepL B w cs v.cells.toList := by
  have one : ∀ u : PV, cs = [u] → RepP B w u v → v.cells = #[v] → RepL B w cs v.cells.toList := by
    intro u h1 h2 h3
    subst h1
    rw [h3]
    simp only [RepL]
    exact ⟨_, [], rfl, h2, rfl⟩
  cases x with
  | agg ds =>
    simp only [cellsP, Option.some.injEq] at hc
    subst hc
    simp only [RepP] at hv
    obtain ⟨vs, rfl, hr⟩ := hv
    exact hr
  | tup ds => simp [cellsP] at hc
  | mp _ => simp [cellsP] at hc
  | unk => simp [cellsP] at hc
  | fl n ds =>
    simp only [cellsP, Option.some.injEq] at hc
    refine one _ hc.symm hv ?_
    simp only [RepP] at hv
    obtain ⟨ad, rfl, _⟩ := hv
    rfl
  | sl n ds =>
    simp only [cellsP, Option.some.injEq] at hc
    refine one _ hc.symm hv ?_
    simp only [RepP] at hv
    obtain ⟨ad, c, rfl, _⟩ := hv
    rfl
  | ptr ds =>
    simp only [cellsP, Option.some.injEq] at hc
    refine one _ hc.symm hv ?_
    simp only [RepP] at hv
    obtain ⟨b, o, rfl, _⟩ := hv
    rfl
  | clo g fs ds =>
    simp only [cellsP, Option.some.injEq] at hc
    refine one _ hc.symm hv ?_
    simp only [RepP] at hv
    obtain ⟨us, vs, rfl, _⟩ := hv
    rfl
  | val u =>
    have hv0 := hv
    simp only [RepP] at hv
    subst hv
    cases v <;> first
      | (simp [cellsP] at hc; done)
      | (simp only [cellsP, Option.some.injEq] at hc; exact one _ hc.symm hv0 rfl)
theorem leaf_one {B : Nat → Prop} : ∀ {cs : List PV} {vs : List Value}, RepL B w cs vs → cs.all leafP = true → ∀ v ∈ vs, v.oneCell' = true
  | [], vs, h, _, v, hv => by simp only [RepL] at h; subst h; cases hv
  | c :: cs, vs, h, hl, v, hv => by
    simp only [RepL] at h
    obtain ⟨x, xs, rfl, h1, h2⟩ := h
    simp only [List.all_cons, Bool.and_eq_true] at hl
    rcases List.mem_cons.1 hv with rfl | hv
    · cases c with
      | agg _ => simp [leafP] at hl
      | tup _ => simp [leafP] at hl
      | mp _ => simp [leafP] at hl
      | unk => simp [leafP] at hl
      | fl n ds =>
        simp only [RepP] at h1
        obtain ⟨ad, rfl, _⟩ := h1
        rfl
      | sl n ds =>
        simp only [RepP] at h1
        obtain ⟨ad, c, rfl, _⟩ := h1
        rfl
      | ptr ds =>
        simp only [RepP] at h1
        obtain ⟨b, o, rfl, _⟩ := h1
        rfl
      | clo g fs ds =>
        simp only [RepP] at h1
        obtain ⟨us, vs, rfl, _⟩ := h1
        rfl
      | val u =>
        simp only [RepP] at h1
        subst h1
        cases v <;> first | rfl | (simp [leafP] at hl; done)
    · exact leaf_one h2 hl.2 v hv
end
end Go.Sx
