/- A part of a proof; the last text of this claim says of what. -/
import Derived.Test.YtnlabeglboomlaaGreatDoorV19
import Derived.Laws.MakeOwn
import Derived.Laws.OwnMore
set_option linter.unusedVariables false
set_option linter.unusedSimpArgs false
set_option linter.unusedSectionVars false
namespace Go.Sx
open Go Go.RowKit Go.Shelf Go.Proofs
inductive ET where
  | done
  | step (i : Nat) (s : ET)
  | free (i : Nat) (s : ET)
  | alt (i : Nat) (s t : ET)
structure Hint where
  ex : List Nat := []
  mc : List FuncId := []
  bw : List Nat := []
  fz : List Nat := []
  tl : List (Nat × List Nat) := []
  tc : List FuncId := []
  fc : List FuncId := []
  ct : List Nat := []
  sf : List TypeId := []
  fl : List TypeId := []
  em : List TypeId := []
  en : List (Nat × ET) := []
structure MeetsM (P : Program) (G : World → Prop) (f : FuncId) (q q' : RowE) (args : List PV) (r : PV) : Prop where
  ent : Enters P f
  calls : ∀ (B : Nat → Prop) (v : Value) (vs us : List Value) (w : World), (∀ b, B b → b < w.heap.size ∧ v.ownBlock ≠ some b) → w.ownsRow 0 q.E q.sz v q.n us → RepL B w q.cs us → RepL B w args vs → (∀ w', w.grownBy w' v.ownBlock → G w') →
    Calls P f ⟨v :: vs⟩ w fun en w' => ∃ x us', en = .returned x ∧ RepP (fun b => (B b ∨ w.heap.size ≤ b) ∧ b < w'.heap.size ∧ v.ownBlock ≠ some b) w' r x ∧ w.grownBy w' v.ownBlock ∧ w'.ownsRow 0 q'.E q'.sz v q'.n us' ∧ RepL (fun b => (B b ∨ w.heap.size ≤ b) ∧ b < w'.heap.size ∧ v.ownBlock ≠ some b) w' q'.cs us' ∧ q'.par = q.par
structure MeetsT (P : Program) (G : World → Prop) (f : FuncId) (q q' : RowE) (args : List PV := []) : Prop where
  ent : Enters P f
  calls : ∀ (B : Nat → Prop) (v : Value) (vs us : List Value) (w : World), (∀ b, B b → b < w.heap.size ∧ v.ownBlock ≠ some b) → w.ownsRow 0 q.E q.sz v q.n us → RepL B w q.cs us → RepL B w args vs → (∀ w', w.grownBy w' v.ownBlock → G w') →
    Calls P f ⟨v :: vs⟩ w fun en w' => ∃ x us', en = .returned x ∧ w.grownBy w' v.ownBlock ∧ w'.ownsRow 0 q'.E q'.sz x q'.n us' ∧ RepL (fun b => (B b ∨ w.heap.size ≤ b) ∧ b < w'.heap.size ∧ v.ownBlock ≠ some b) w' q'.cs us' ∧ x.ownBlock = v.ownBlock
structure MeetsR (P : Program) (G : World → Prop) (f : FuncId) (args : List PV) (q : RowE) : Prop where
  ent : Enters P f
  calls : ∀ (B : Nat → Prop) (vs : List Value) (w : World), (∀ b, B b → b < w.heap.size) → RepL B w args vs → G w →
    Calls P f ⟨vs⟩ w fun en w' => ∃ x us', en = .returned x ∧ Below w.heap.size w w' ∧ w'.ownsRow 0 q.E q.sz x q.n us' ∧ RepL (fun b => (B b ∨ w.heap.size ≤ b) ∧ b < w'.heap.size ∧ x.ownBlock ≠ some b) w' q.cs us' ∧ ∀ g, x.ownBlock = some g → w.heap.size ≤ g
inductive RR where
  | tcall (g : FuncId) (nm : Nat) (q : RowE) (args : List PV)
  | fcall (g : FuncId) (args : List PV)
  | old
  | set (nm : Nat) (q : RowE) (v : SV) (c : Prop)
  | put (nm : Nat) (q : RowE) (v : SV) (c : Prop)
  | new (q : RowE) (c : Prop)
  | mcall (g : FuncId) (nm : Nat) (q : RowE) (args : List PV)
  | borrow (g : FuncId) (args : List PV)
  | lit (y : PV) (c : Prop)
  | bad
def wkP : PV → PV
  | .val v => .val v
  | .sl n _ => .sl n []
  | _ => .unk
def evBP (ρ : Rws) : SV → Option PV
  | .p (.fl n cs) => some (.sl n cs)
  | .p y => some y
  | .orow nm => (match ρ nm with | some q => some (.sl q.n q.cs) | none => none)
  | _ => none
def evB (ρ : Rws) (e : Env) : List Operand → Option (List PV)
  | [] => some []
  | x :: xs => match evBP ρ (evO e x), evB ρ e xs with | some y, some ys => some (y :: ys) | _, _ => none
def evsFK (n : Nat) (cs : List PV) (l : Option (List PV)) : Option (List PV) := match l with | some ys => some (.fl n cs :: ys) | none => none
def evFT (ρ : Rws) (e : Env) (t : Nat) (s : SV) (xs : List Operand) : Option (List PV) := match s with | .p (.fl n cs) => evsFK n cs (evB ρ e xs) | _ => evB ρ e (.tmp t :: xs)
def rApZ (n : Nat) (cs : List PV) (t : Option TI) : RR := match t with | some _ => .lit (.sl n cs) True | none => .bad
def evBF (ρ : Rws) (e : Env) : List Operand → Option (List PV)
  | .const (.slice none 0 0) :: xs => evsFK 0 [] (evB ρ e xs)
  | .tmp t :: xs => evFT ρ e t (e t) xs
  | l => evB ρ e l
def isNil : Operand → Bool
  | .const (.slice none 0 0) => true
  | _ => false
def rNil (T : Tab) (t : Option TI) : RR :=
  match t with
  | some ti => (match ti.d with
    | .slice el => (match T el with | some te => .new ⟨el, te.size, 0, [], false⟩ True | none => .old)
    | _ => .old)
  | none => .old
def nilB (a b : Bool) : Bool := match a with | true => !b | false => false
def rB0K (t : Option TI) : RR := match t with | some _ => .lit (.sl 0 []) True | none => .bad
def rB0 (T : Tab) (t : Option TI) : RR := match t with
  | some ti => (match ti.d with | .slice el => rB0K (T el) | _ => .bad)
  | none => .bad
def b0R (T : Tab) (b : Bool) (t : Option TI) : RR := match b with | true => rB0 T t | false => rNil T t
def rStore (ρ : Rws) (t : Option TI) (x y : SV) : RR :=
  match x with
  | .rowp nm off => (match t, ρ nm, y with
    | some ti, some q, .p z => (match cellsP z with
      | some zs => .put nm { q with cs := q.cs.take off ++ zs ++ q.cs.drop (off + zs.length) } (.p (.val undef)) (zs.length = ti.size ∧ off + zs.length ≤ q.cs.length ∧ zs.all leafP = true)
      | none => .bad)
    | _, _, _ => .bad)
  | _ => .old
def rMake (T : Tab) (t : Option TI) (l c : SV) : RR :=
  match t, l, c with
  | some ti, .p (.val (.int _ n)), .p (.val (.int _ m)) => (match ti.d with
    | .slice el => (match T el with
      | some te => .new ⟨el, te.size, n.toNat, rep n.toNat te.zero, false⟩ (0 ≤ n ∧ n ≤ m ∧ (te.bytes : Int) * m ≤ 281474976710656 ∧ m ≤ 9223372036854775807)
      | none => .bad)
    | _ => .bad)
  | _, _, _ => .bad
def rSlice (T : Tab) (e : Env) (ρ : Rws) (t : Option TI) (x : SV) (lo hi : Option Operand) : RR :=
  match x with
  | .orow nm => (match t, ρ nm with
    | some ti, some q => (match ti.d with
      | .slice el => (match T el, bndP e lo 0, bndP e hi (q.n : Nat) with
        | some te, some l, some m => .set nm { q with n := m.toNat, cs := q.cs.take (m.toNat * te.size) } (.orow nm) (l = 0 ∧ 0 ≤ m ∧ m ≤ (q.n : Nat) ∧ te.size = q.sz ∧ q.par = false)
        | _, _, _ => .bad)
      | _ => .bad)
    | _, _ => .bad)
  | _ => .old
def valP : PV → Bool
  | .val _ => true
  | _ => false
def rlK3 (n : Nat) (te : TI) (c : Option (List PV)) : RR := match c with | some cs => .lit (.fl n cs) (n * te.size ≤ 16777216 ∧ n * te.size ≠ 0 ∧ te.zero.length = te.size) | none => .bad
def rlK2 (T : Tab) (n : Nat) (el : TypeId) (ps : List (Nat × PV)) (t : Option TI) : RR := match t with | some te => rlK3 n te (fillP T (.slice el) (rep n te.zero) ps) | none => .bad
def rLit (T : Tab) (n : Nat) (ps : Option (List (Nat × PV))) (t : Option TI) : RR :=
  match t, ps with
  | some ti, some ps => (match ti.d with | .slice el => rlK2 T n el ps (T el) | _ => .bad)
  | _, _ => .bad
def rAppF (el n m : Nat) (cs news : List PV) (te : Option TI) : RR := match te with
  | some te => .new ⟨el, te.size, n + m, cs ++ news, false⟩ (0 < m ∧ cs.length = n * te.size ∧ news.length = m * te.size ∧ cs.all valP = true ∧ news.all valP = true ∧ 0 < te.size ∧ n + m ≤ maxLen ∧ (n + m) * te.bytes ≤ 140737488355328)
  | none => .bad
def rAppend (T : Tab) (ρ : Rws) (t : Option TI) (s x : SV) : RR :=
  match t, s, x with
  | some ti, .orow nm, .p (.sl m news) => (match ti.d, ρ nm with
    | .slice el, some q => (match T el with
      | some te => .set nm { q with n := q.n + m, cs := q.cs ++ news } (.orow nm) (news.length = m * te.size ∧ news.all leafP = true ∧ q.E = el ∧ q.sz = te.size ∧ 0 < te.size ∧ q.n + m ≤ maxLen ∧ (q.n + m) * te.bytes ≤ 140737488355328 ∧ q.par = false)
      | none => .bad)
    | _, _ => .bad)
  | some ti, .p (.fl n cs), .p (.sl m news) => (match ti.d with | .slice el => rAppF el n m cs news (T el) | _ => .bad)
  | some ti, .p (.sl n cs), .p (.sl 0 _) => (match ti.d with | .slice el => rApZ n cs (T el) | _ => .bad)
  | _, _, _ => .bad
def rAppN (T : Tab) (ρ : Rws) (t : Option TI) (nl : Bool) (s x : SV) : RR :=
  match t, nl, x with
  | some ti, true, .p (.sl (m + 1) news) => (match ti.d with | .slice el => rAppF el 0 (m + 1) [] news (T el) | _ => .bad)
  | _, _, _ => rAppend T ρ t s x
def mcHas (X : Hint) (g : FuncId) : Bool := X.mc.contains g
def tcHas (X : Hint) (g : FuncId) : Bool := X.tc.contains g
def fcHas (X : Hint) (g : FuncId) : Bool := X.fc.contains g
def rCallT (e : Env) (ρ : Rws) (g : FuncId) (l : List Operand) : RR :=
  match l with
  | x :: xs => (match evO e x, evPs e xs with
    | .orow nm, some rest => (match ρ nm with | some q => .tcall g nm q rest | none => .bad)
    | _, _ => .bad)
  | [] => .bad
def rCallF (g : FuncId) (l : Option (List PV)) : RR := match l with | some l => .fcall g l | none => .bad
def rCall2 (e : Env) (ρ : Rws) (g : FuncId) (l : List Operand) : RR :=
  match l with
  | x :: xs => (match evO e x, evPs e xs with
    | .orow nm, some rest => (match ρ nm with | some q => .mcall g nm q rest | none => .bad)
    | _, _ => .bad)
  | [] => .bad
def rBorrow (g : FuncId) (l : Option (List PV)) : RR := match l with | some l => .borrow g l | none => .bad
def rCall (X : Hint) (b : Bool) (e : Env) (ρ : Rws) (f : SV) (l : List Operand) : RR :=
  match f with
  | .p (.clo g [] []) => (match mcHas X g with
    | true => rCall2 e ρ g l
    | false => (match tcHas X g with
      | true => rCallT e ρ g l
      | false => (match fcHas X g with
        | true => rCallF g (evPs e l)
        | false => (match b with | true => rBorrow g (evBF ρ e l) | false => .old))))
  | _ => .old
def opR (T : Tab) (X : Hint) (b : Bool) (ty : TypeId) (op : Op) (e : Env) (ρ : Rws) : RR :=
  match op with
  | .move x | .assign x => (match nilB (isNil x) (X.em.contains ty) with | true => rNil T (T ty) | false => .old)
  | .buildSlice t 0 ⟨[]⟩ => b0R T (X.em.contains t) (T t)
  | .buildSlice t n ps => (match X.fl.contains t with | true => rLit T n (partsP e ps.toList) (T t) | false => .old)
  | .store t x y => rStore ρ (T t) (evO e x) (evO e y)
  | .makeSlice t l c => rMake T (T t) (evO e l) (evO e c)
  | .slice t x lo hi none => rSlice T e ρ (T t) (evO e x) lo hi
  | .call ⟨.builtin .append, ⟨[s, x]⟩, ⟨[t, t']⟩⟩ => (match Nat.beq t t' with | true => rAppN T ρ (T t) (isNil s) (evO e s) (evO e x) | false => .bad)
  | .call ⟨.value f, args, _⟩ => rCall X b e ρ (evO e f) args.toList
  | _ => .old
def freshR (ρ : Rws) (d : Option Nat) (f : Nat → Prop) : Prop :=
  match d with
  | some d => (match ρ d with | none => f d | some _ => (match ρ (d + 1000) with | none => f (d + 1000) | some _ => ∃ nm, ρ nm = none ∧ f nm))
  | none => ∃ nm, ρ nm = none ∧ f nm
theorem freshR_spec {ρ : Rws} {d : Option Nat} {f : Nat → Prop} (hf : freshR ρ d f) : ∃ nm, ρ nm = none ∧ f nm := by
  unfold freshR at hf
  split at hf
  · split at hf
    · rename_i h1; exact ⟨_, h1, hf⟩
    · split at hf
      · rename_i h1; exact ⟨_, h1, hf⟩
      · exact hf
  · exact hf
def CallM (P : Program) (G : World → Prop) (g : FuncId) (q : RowE) (args : List PV) (K : RowE → PV → Prop) : Prop := ∃ q' y, MeetsM P G g q q' args y ∧ K q' y
def CallTk (P : Program) (G : World → Prop) (g : FuncId) (q : RowE) (args : List PV) (K : RowE → Prop) : Prop := q.par = false ∧ ∃ q', MeetsT P G g q q' args ∧ q'.par = false ∧ K q'
def CallFk (P : Program) (G : World → Prop) (g : FuncId) (args : List PV) (K : RowE → Prop) : Prop := ∃ q, MeetsR P G g args q ∧ q.par = false ∧ K q
def rrK (P : Program) (G : World → Prop) (T : Tab) (d : Option Nat) (op : Op) (e : Env) (h : Hp) (ρ : Rws) (r : RR) (k : SV → Env → Hp → Rws → Prop) : Prop :=
  match r with
  | .old => resK P G h d (opS T ρ op e h) fun v h' => k v e h' ρ
  | .set nm q v c => c ∧ k v (killE nm e) h (upd ρ nm (some q))
  | .put nm q v c => c ∧ k v e h (upd ρ nm (some q))
  | .new q c => c ∧ freshR ρ d fun nm => k (.orow nm) e h (upd ρ nm (some q))
  | .mcall g nm q args => CallM P G g q args fun q' y => k (.p y) e h (upd ρ nm (some q'))
  | .borrow g args => CallK P G g args fun y => k (.p (wkP y)) e h ρ
  | .lit y c => c ∧ k (.p y) e h ρ
  | .tcall g nm q args => CallTk P G g q args fun q' => k (.orow nm) (killE nm e) h (upd ρ nm (some q'))
  | .fcall g args => CallFk P G g args fun q => freshR ρ d fun nm => k (.orow nm) e h (upd ρ nm (some q))
  | .bad => False
section
variable {P : Program} {G : World → Prop} {T : Tab} {ζ : Fr} {N : Nat} {own own' : Nat → Nat} {e : Env} {h h' : Hp} {a : Act} {w w' : World} {o : Oper} {v : SV} {X : Hint} {next : Act → World → Prop} {Q : Exit → Act → World → Prop}
theorem repC_cells {B : Nat → Prop} {cs : List PV} {b o : Nat} (hr : RepC B w cs b o) : ∃ vs, RepL B w cs vs ∧ ∀ j u, vs[j]? = some u → w.cell? ((⟨b, o, none⟩ : Addr).add j) = some u := by
  obtain ⟨vs, h1, h2⟩ := hr.vals
  exact ⟨vs, h1, fun j u hj => by rw [add_plain']; exact h2 j u hj⟩
def RowGoes (P : Program) (ζ : Fr) (N : Nat) (e' : Env) (h : Hp) (a : Act) (w : World) (o : Oper) (nm : Nat) (q : RowE) (v : SV) : Prop :=
  ∃ rv' x w', ((execOp a.eval o).run P w = .ok (.value x) w' ∨ ((execOp a.eval o).run P w = .ok .skip w' ∧ x = undef)) ∧ ∃ own, R (ζ.rows (upd ζ.ρ nm (some q)) rv') N own e' h a w' ∧ RepS (ζ.rows (upd ζ.ρ nm (some q)) rv') own h w' v x
theorem row_wp {ρ' : Rws} {nm : Nat} {q : RowE} {e' : Env} (g : RowGoes P ζ N e' h a w o nm q v) (hk : ∀ rv' own' x w', R (ζ.rows (upd ζ.ρ nm (some q)) rv') N own' e' h a w' → RepS (ζ.rows (upd ζ.ρ nm (some q)) rv') own' h w' v x → next (a.put o.dst x) w') : o.wp P a w next Q := by
  obtain ⟨rv', x, w', hr, own, r', hv⟩ := g
  rcases hr with hr | ⟨hr, rfl⟩
  · unfold Oper.wp; rw [hr]; exact hk rv' own x w' r' hv
  · unfold Oper.wp; rw [hr]; exact hk rv' own undef w' r' hv
theorem row_new (r : R ζ N own e h a w) {nm : Nat} (hn : ζ.ρ nm = none) {q : RowE} {x : Value} {vs : List Value} {w' : World} (hg : w.grownBy w' none) (hown : w'.ownsRow 0 q.E q.sz x q.n vs)
    (hrep : ∀ B, RepL B w' q.cs vs) (hp : q.par = false) (hb : ∀ k, x.ownBlock = some k → w.heap.size ≤ k) (hrun : (execOp a.eval o).run P w = .ok (.value x) w') : RowGoes P ζ N e h a w o nm q (.orow nm) := by
  refine ⟨upd ζ.rv nm x, x, w', .inl hrun, own, r.rowSet hg (.inl rfl) hown (hrep _) (.inr ⟨hp, hb⟩) ?_, ?_⟩
  · intro t
    refine .inr ⟨rfl, .inl ?_⟩
    have ht := r.tmp t
    cases hs : e t with
    | orow m =>
      rw [hs] at ht
      have : m ≠ nm := fun e1 => ht.1 (e1 ▸ hn)
      simp [killS, this]
    | rowp m off =>
      rw [hs] at ht
      have : m ≠ nm := fun e1 => ht.1 (e1 ▸ hn)
      simp [killS, this]
    | _ => rfl
  · refine ⟨?_, ?_⟩
    · show upd ζ.ρ nm (some q) nm ≠ none
      rw [upd_same]; simp
    · show x = upd ζ.rv nm x nm
      rw [upd_same]
theorem opR_nil (tk : TOk P T) (r : R ζ N own e h a w) {nm : Nat} (hn : ζ.ρ nm = none) {x : Operand} (hx : isNil x = true) (ho : o.op = .move x ∨ o.op = .assign x) (el : TypeId) (sz : Nat) : RowGoes P ζ N e h a w o nm ⟨el, sz, 0, [], false⟩ (.orow nm) := by
  have e1 : x = .const (.slice none 0 0) := by
    unfold isNil at hx
    split at hx
    · rfl
    · cases hx
  subst e1
  refine row_new r hn (grownBy_refl w none) (vs := []) (x := .slice none 0 0) (World.ownsRow_nil w 0 el sz) (fun B => by simp [RepL]) rfl (by intro k hk; simp [Value.ownBlock] at hk) ?_
  rcases ho with ho | ho <;> simp [execOp, ho, Act.eval]
theorem opR_build0 (tk : TOk P T) (r : R ζ N own e h a w) {nm : Nat} (hn : ζ.ρ nm = none) {t : TypeId} (ho : o.op = .buildSlice t 0 #[]) {ti te : TI} {el : TypeId} (ht : T t = some ti) (hd : ti.d = .slice el) (hte : T el = some te) : RowGoes P ζ N e h a w o nm ⟨el, te.size, 0, [], false⟩ (.orow nm) := by
  have hu := under_slice (tk.ok t ti ht) hd
  refine row_new r hn (World.grownBy_alloc w (.cells #[] el (0, 0)) none) (vs := []) (x := .slice (some ⟨w.heap.size, 0, none⟩) 0 0) ?_ (fun B => by simp [RepL]) rfl (by intro k hk; simp [Value.ownBlock] at hk; omega) ?_
  · exact World.ownsRow_made w #[] 0 (Nat.zero_le _) (by simp [maxLen]) (by simp)
  · simp [execOp, ho, Instr.buildSlice, run_under_of hu, (tk.ok _ _ hte).run_size, Instr.fill, newRow, Array.range_zero']
theorem made_list (z : List Value) (n m : Nat) (hnm : n ≤ m) : ((madeCells ⟨z⟩ (m * z.length)).toList.take (n * z.length)) = (List.replicate n z).flatten := by
  have h1 : (madeCells ⟨z⟩ (m * z.length)).toList = (List.replicate m z).flatten := by
    rw [← range_mod z m]
    simp [madeCells, getElem!_def]
  rw [h1]
  obtain ⟨k, rfl⟩ := Nat.exists_eq_add_of_le hnm
  rw [← List.replicate_append_replicate, List.flatten_append]
  have : (List.replicate n z).flatten.length = n * z.length := by simp
  rw [← this, List.take_left']
  rfl
theorem opR_make (tk : TOk P T) (r : R ζ N own e h a w) {nm : Nat} (hn : ζ.ρ nm = none) {t : TypeId} {l c : Operand} (ho : o.op = .makeSlice t l c) {ti te : TI} {el : TypeId} (ht : T t = some ti) (hd : ti.d = .slice el) (hte : T el = some te) {k1 k2 : IntKind} {n m : Int}
    (hl : evO e l = .p (.val (.int k1 n))) (hc : evO e c = .p (.val (.int k2 m))) (h0 : 0 ≤ n) (h1 : n ≤ m) (h2 : (te.bytes : Int) * m ≤ 281474976710656) (h3 : m ≤ 9223372036854775807) : RowGoes P ζ N e h a w o nm ⟨el, te.size, n.toNat, rep n.toNat te.zero, false⟩ (.orow nm) := by
  have hu := under_slice (tk.ok t ti ht) hd
  obtain ⟨ie, zv, e1, e2, e3, e4⟩ := (tk.ok _ _ hte).info
  obtain ⟨ie', e5, e6⟩ := (tk.ok _ _ hte).bytes
  rw [e1] at e5; cases e5
  have hz := (e4 (fun _ => True) w).length
  rw [(tk.ok _ _ hte).zlen, Array.length_toList] at hz
  have hrun := run_make (P := P) w t el ie zv hu e1 e3 k1 k2 n m h0 h1 (by rw [e6]; exact h2) h3
  refine row_new r hn (World.grownBy_alloc w _ none) (vs := (List.replicate n.toNat zv.cells.toList).flatten) (x := .slice (some ⟨w.heap.size, 0, none⟩) n.toNat m.toNat) ?_ ?_ rfl (by intro k hk; simp [Value.ownBlock] at hk; omega) ?_ (w' := w.alloc (.cells (madeCells zv.cells (m.toNat * ie.size)) el))
  · refine ⟨by simp [hz], .inr ⟨w.heap.size, m.toNat, _, rfl, Nat.zero_le _, heap_alloc_new w _, by show n.toNat ≤ m.toNat; omega, by simp only [maxLen]; omega, ?_, ?_⟩⟩
    · rw [size_madeCells, e2]
    · have := made_list zv.cells.toList n.toNat m.toNat (by omega)
      rw [Array.length_toList, hz] at this
      rw [e2]
      exact this
  · intro B
    exact rep_rep (e4 B _) n.toNat
  · simp only [execOp, ho, Sem.run_bind, ev_val r hl, ev_val r hc]
    rw [hrun]
    rfl
theorem opR_slice (tk : TOk P T) (r : R ζ N own e h a w) {nm : Nat} {t : TypeId} {x : Operand} {lo hi : Option Operand} (ho : o.op = .slice t x lo hi none) {ti te : TI} {el : TypeId} {q : RowE} {l m : Int} (ht : T t = some ti) (hd : ti.d = .slice el) (hte : T el = some te)
    (hx : evO e x = .orow nm) (hq : ζ.ρ nm = some q) (hl : bndP e lo 0 = some l) (hm : bndP e hi (q.n : Nat) = some m) (h0 : l = 0) (h1 : 0 ≤ m) (h2 : m ≤ (q.n : Nat)) (hsz : te.size = q.sz) (hpar : q.par = false) :
    RowGoes P ζ N (killE nm e) h a w o nm { q with n := m.toNat, cs := q.cs.take (m.toNat * te.size) } (.orow nm) := by
  subst h0
  obtain ⟨hne, e1⟩ := ev_orow r hx
  obtain ⟨vs, g1, g2, g3⟩ := r.row nm q hq
  have hu := run_under_of (under_slice (tk.ok t ti ht) hd) w
  have hkill : ∀ t, killE nm e t = .any ∨ killE nm e t = e t ∧ (killS nm (e t) = e t ∨ ζ.ρ nm ≠ none ∧ ζ.rv nm = ζ.rv nm) := by
    intro t
    unfold killE
    cases hs : e t with
    | orow m => by_cases hm : m = nm <;> simp [killS, hm]
    | rowp m off => by_cases hm : m = nm <;> simp [killS, hm]
    | _ => exact .inr ⟨rfl, .inl rfl⟩
  rcases g1.2 with ⟨hv, hn0⟩ | ⟨g, cap, cur, hv, hb, hg, h3, h4, h5, h6⟩
  · have hm0 : m = 0 := by omega
    subst hm0
    have hb := bounds_run (P := P) r hl hm (Int.le_refl _) h1 h2 (cap := 0) (by omega) true
    have hvs : vs = [] := List.eq_nil_of_length_eq_zero (by rw [g1.1, hn0]; simp)
    refine ⟨upd ζ.rv nm (.slice none 0 0), .slice none 0 0, w, .inl ?_, own, r.rowSet (grownBy_refl w none) (.inl rfl) (vs := []) (World.ownsRow_nil w 0 _ _) (by simp [RepL]) (.inl ⟨q, hq, by rw [hv], rfl, fun hp => absurd hp (by rw [hpar]; simp)⟩) ?_, ?_, ?_⟩
    · rw [hn0] at hb
      simp [execOp, ho, e1, hv, Instr.sliceAt, Instr.slice, hu, hb, (tk.ok _ _ hte).run_size]
    · intro t; rw [← hv]; exact hkill t
    · show upd ζ.ρ nm _ nm ≠ none
      rw [upd_same]; simp
    · show _ = upd ζ.rv nm _ nm
      rw [upd_same]
  · have hbd := bounds_run (P := P) r hl hm (Int.le_refl _) h1 h2 h3 true
    have hmn : m.toNat ≤ q.n := by omega
    refine ⟨upd ζ.rv nm (.slice (some ⟨g, 0, none⟩) m.toNat cap), .slice (some ⟨g, 0, none⟩) m.toNat cap, w, .inl ?_, own, r.rowSet (grownBy_refl w none) (.inl rfl) (vs := vs.take (m.toNat * q.sz)) ?_ ?_ (.inl ⟨q, hq, by rw [hv]; rfl, rfl, fun hp => absurd hp (by rw [hpar]; simp)⟩) ?_, ?_, ?_⟩
    · simp [execOp, ho, e1, hv, Instr.sliceAt, Instr.slice, hu, hbd, (tk.ok _ _ hte).run_size, add_plain']
    · refine ⟨?_, .inr ⟨g, cap, cur, rfl, hb, hg, by show m.toNat ≤ cap; omega, h4, h5, ?_⟩⟩
      · rw [List.length_take, g1.1]
        exact Nat.min_eq_left (Nat.mul_le_mul_right _ hmn)
      · show cur.toList.take (m.toNat * q.sz) = vs.take (m.toNat * q.sz)
        rw [← h6, List.take_take, Nat.min_eq_left (Nat.mul_le_mul_right _ hmn)]
    · have hB := r.rowBk (grownBy_refl w none) (nm := nm) (.inl rfl) (q := { q with n := m.toNat, cs := q.cs.take (m.toNat * te.size) }) (v := .slice (some ⟨g, 0, none⟩) m.toNat cap) (.inl ⟨q, hq, by rw [hv]; rfl, rfl, fun hp => absurd hp (by rw [hpar]; simp)⟩)
      have hh : m.toNat * q.sz = m.toNat * te.size := by rw [hsz]
      rw [hh]
      exact RepL.mono hB _ _ (g2.take _)
    · intro t
      unfold killE
      cases hs : e t with
      | orow m' => by_cases hm : m' = nm <;> simp [killS, hm]
      | rowp m' off => by_cases hm : m' = nm <;> simp [killS, hm]
      | _ => exact .inr ⟨rfl, .inl rfl⟩
    · show upd ζ.ρ nm _ nm ≠ none
      rw [upd_same]; simp
    · show _ = upd ζ.rv nm _ nm
      rw [upd_same]
theorem list_seg_take (l z : List Value) (off k n : Nat) (h1 : off + z.length = k) (h2 : k ≤ n) (h3 : n ≤ l.length) : (l.take off ++ z ++ l.drop k).take n = (l.take n).take off ++ z ++ (l.take n).drop k := by
  subst h1
  rw [List.append_assoc, List.append_assoc, List.take_append, List.take_append]
  have e1 : (l.take off).length = off := by rw [List.length_take]; omega
  rw [e1, List.take_take, List.take_take, Nat.min_eq_right (by omega : off ≤ n), Nat.min_eq_left (by omega : off ≤ n)]
  congr 1
  rw [List.take_of_length_le (show z.length ≤ n - off by omega), List.drop_take]
  congr 1
  congr 1
  omega
theorem opR_store (tk : TOk P T) (r : R ζ N own e h a w) {nm off : Nat} {t : TypeId} {x y : Operand} (ho : o.op = .store t x y) {ti : TI} {q : RowE} {z : PV} {zs : List PV} (ht : T t = some ti) (hx : evO e x = .rowp nm off) (hq : ζ.ρ nm = some q)
    (hy : evO e y = .p z) (hc : cellsP z = some zs) (hs : zs.length = ti.size) (hfit : off + zs.length ≤ q.cs.length) (hl : zs.all leafP = true) :
    RowGoes P ζ N e h a w o nm { q with cs := q.cs.take off ++ zs ++ q.cs.drop (off + zs.length) } (.p (.val undef)) := by
  have hx1 := ev_sound r x
  rw [hx] at hx1
  obtain ⟨hne, g, hg, e1⟩ := hx1
  obtain ⟨vs, g1, g2, g3⟩ := r.row nm q hq
  have h2 := cellsP_rep hc (ev_p r hy)
  have hlen := h2.length
  have hlen2 := g2.length
  have h3 := leaf_one h2 hl
  rcases g1.2 with ⟨hv, hn0⟩ | ⟨g', cap, cur, hv, hb, hgg, h4, h5, h6, h7⟩
  · rw [hv] at hg; simp [Value.ownBlock] at hg
  · have : g' = g := by rw [hv] at hg; simpa [Value.ownBlock] using hg
    subst this
    have hvl : vs.length = q.n * q.sz := g1.1
    have hcl : q.n * q.sz ≤ cur.size := by rw [h6]; exact Nat.mul_le_mul_right _ h4
    have hst := run_storeCells_at P g' off q.E (a.eval y).cells.toList 0 cur w hgg (by omega) h3
    have hsz : (a.eval y).cells.size = ti.size := by rw [← Array.length_toList, hlen, hs]
    simp only [Nat.add_zero] at hst
    have hgr : w.grownBy (w.setRow g' (cur.toList.take off ++ (a.eval y).cells.toList ++ cur.toList.drop (off + (a.eval y).cells.toList.length)).toArray) (some g') := by
      refine ⟨rfl, rfl, rfl, by simp [World.setRow], fun k _ hk => setRow_other w g' k _ (fun e => hk (by rw [e]))⟩
    have hB := r.rowBk hgr (nm := nm) (.inr ⟨hne, by rw [hv]; rfl⟩) (q := { q with cs := q.cs.take off ++ zs ++ q.cs.drop (off + zs.length) }) (v := ζ.rv nm) (.inl ⟨q, hq, rfl, rfl, fun _ => rfl⟩)
    refine ⟨upd ζ.rv nm (ζ.rv nm), undef, _, .inr ⟨?_, rfl⟩, own, r.rowSet hgr (.inr ⟨hne, by rw [hv]; rfl⟩) (vs := vs.take off ++ (a.eval y).cells.toList ++ vs.drop (off + zs.length)) ?_ ?_ (.inl ⟨q, hq, rfl, rfl, fun _ => rfl⟩) (fun t => .inr ⟨rfl, .inr ⟨hne, rfl⟩⟩), ?_⟩
    · simp only [execOp, ho, Instr.storeAt, Instr.sureAddr, e1, storeVar, Sem.run_bind, Sem.run_pure, Result.andThen_ok, (tk.ok t ti ht).run_size, hsz, ne_eq, not_true_eq_false, if_false, Sem.run_ite, run_stuck]
      rw [hst]
      rfl
    · rw [hv]
      refine ⟨?_, .inr ⟨g', cap, _, rfl, hb, setRow_heap w g' cur _ q.E (0, 0) hgg, h4, h5, ?_, ?_⟩⟩
      · show _ = q.n * q.sz
        rw [List.length_append, List.length_append, List.length_take, List.length_drop]
        omega
      · show _ = cap * q.sz
        rw [← h6]
        simp only [List.size_toArray, List.length_append, List.length_take, List.length_drop, Array.length_toList]
        rw [Array.length_toList] at hlen
        omega
      · show _ = vs.take off ++ (a.eval y).cells.toList ++ vs.drop (off + zs.length)
        rw [hlen, ← h7]
        exact list_seg_take cur.toList (a.eval y).cells.toList off (off + zs.length) (q.n * q.sz) (by rw [hlen]) (by omega) (by rw [Array.length_toList]; exact hcl)
    · exact RepL.mono hB _ _ (((g2.take off).append h2).append (g2.drop _))
    · show RepP _ _ _ _
      simp only [RepP]
theorem opR_append (tk : TOk P T) (r : R ζ N own e h a w) {nm : Nat} {t : TypeId} {s x : Operand} (ho : o.op = .call ⟨.builtin .append, #[s, x], #[t, t]⟩) {ti te : TI} {el : TypeId} {q : RowE} {m : Nat} {news : List PV} (ht : T t = some ti) (hd : ti.d = .slice el) (hte : T el = some te)
    (hs : evO e s = .orow nm) (hx : evO e x = .p (.sl m news)) (hq : ζ.ρ nm = some q) (h1 : news.length = m * te.size) (h2 : news.all leafP = true) (h3 : q.E = el) (h4 : q.sz = te.size) (h5 : 0 < te.size) (h6 : q.n + m ≤ maxLen) (h7 : (q.n + m) * te.bytes ≤ 140737488355328) (h8 : q.par = false) :
    RowGoes P ζ N (killE nm e) h a w o nm { q with n := q.n + m, cs := q.cs ++ news } (.orow nm) := by
  obtain ⟨hne, e1⟩ := ev_orow r hs
  obtain ⟨vs, g1, g2, g3⟩ := r.row nm q hq
  have hu := under_slice (tk.ok t ti ht) hd
  obtain ⟨ie, zv, i1, i2, i3, i4⟩ := (tk.ok _ _ hte).info
  obtain ⟨ie', i5, i6⟩ := (tk.ok _ _ hte).bytes
  rw [i1] at i5; cases i5
  have hzl := (i4 (fun _ => True) w).length
  rw [(tk.ok _ _ hte).zlen, Array.length_toList] at hzl
  have hv := ev_p r hx
  simp only [RepP] at hv
  obtain ⟨ad, c, e2, hmc, hc0, hr⟩ := hv
  have hkill : ∀ v', ∀ t, killE nm e t = .any ∨ killE nm e t = e t ∧ (killS nm (e t) = e t ∨ ζ.ρ nm ≠ none ∧ v' = ζ.rv nm) := by
    intro v' t
    unfold killE
    cases hs : e t with
    | orow m => by_cases hm : m = nm <;> simp [killS, hm]
    | rowp m off => by_cases hm : m = nm <;> simp [killS, hm]
    | _ => exact .inr ⟨rfl, .inl rfl⟩
  subst h3
  rw [h4] at g1
  cases ad with
  | none =>
    have hc : c = 0 := by
      rcases hc0 with h | h
      · exact h
      · exact absurd rfl h
    subst hc
    have hm0 : m = 0 := by omega
    subst hm0
    have hnn : news = [] := List.eq_nil_of_length_eq_zero (by rw [h1]; simp)
    subst hnn
    have hrun := run_append_owned_none (P := P) (w := w) 0 t o.type q.E ie te.size hu i1 (ζ.rv nm) q.n vs g1
    have hB := r.rowBk (grownBy_refl w none) (nm := nm) (.inl rfl) (q := { q with n := q.n + 0, cs := q.cs ++ [] }) (v := ζ.rv nm) (.inl ⟨q, hq, rfl, rfl, fun _ => rfl⟩)
    refine ⟨upd ζ.rv nm (ζ.rv nm), ζ.rv nm, w, .inl ?_, own, r.rowSet (grownBy_refl w none) (.inl rfl) (vs := vs) ?_ ?_ (.inl ⟨q, hq, rfl, rfl, fun _ => rfl⟩) (hkill _), ?_, ?_⟩
    · simp [execOp, ho, resolve, invoke, builtin, e1, e2, hrun]
    · show w.ownsRow 0 q.E q.sz (ζ.rv nm) (q.n + 0) vs
      rw [h4]; exact g1
    · show RepL _ _ (q.cs ++ []) _
      rw [List.append_nil]
      have := RepL.mono hB _ _ g2
      simpa using this
    · show upd ζ.ρ nm _ nm ≠ none
      rw [upd_same]; simp
    · show _ = upd ζ.rv nm _ nm
      rw [upd_same]
  | some ad =>
    have hnews : ∃ us, RepL (Bk ζ own h w) w news us ∧ ∀ j u, us[j]? = some u → w.cell? (ad.add j) = some u := by
      rcases hr with hr | ⟨b, of, e3, hb, hr⟩
      · subst hr; exact ⟨[], by simp [RepL], by simp⟩
      · cases e3
        exact repC_cells hr
    obtain ⟨us, hu1, hu2⟩ := hnews
    have hul := hu1.length
    obtain ⟨v', w', hrun, j1, j2, _, j4⟩ := run_append_own_at (P := P) w 0 t o.type q.E ie zv te.size te.bytes hu i1 i3 i2 i6 hzl.symm.symm h5 (ζ.rv nm) q.n vs g1 ad m c us (by rw [hul, h1]) hu2 (leaf_one hu1 h2) h6 h7 (Nat.zero_le _)
    have hblk : (∃ q0, ζ.ρ nm = some q0 ∧ v'.ownBlock = (ζ.rv nm).ownBlock ∧ ({ q with n := q.n + m, cs := q.cs ++ news } : RowE).par = q0.par ∧ (({ q with n := q.n + m, cs := q.cs ++ news } : RowE).par = true → v' = ζ.rv nm)) ∨ (({ q with n := q.n + m, cs := q.cs ++ news } : RowE).par = false ∧ ∀ k, v'.ownBlock = some k → w.heap.size ≤ k) := by
      rcases j4 with j4 | j4
      · exact .inl ⟨q, hq, j4, rfl, fun hp => absurd hp (by show ¬ q.par = true; rw [h8]; simp)⟩
      · refine .inr ⟨h8, fun k hk => ?_⟩
        rw [j4] at hk; cases hk; exact Nat.le_refl _
    have hB := r.rowBk j2 (nm := nm) (.inr ⟨hne, rfl⟩) (q := { q with n := q.n + m, cs := q.cs ++ news }) (v := v') hblk
    refine ⟨upd ζ.rv nm v', v', w', .inl ?_, own, r.rowSet j2 (.inr ⟨hne, rfl⟩) (vs := vs ++ us) ?_ ?_ hblk (hkill _), ?_, ?_⟩
    · simp [execOp, ho, resolve, invoke, builtin, e1, e2, hrun]
    · show w'.ownsRow 0 q.E q.sz v' (q.n + m) (vs ++ us)
      rw [h4]; exact j1
    · exact RepL.mono hB _ _ (g2.append hu1)
    · show upd ζ.ρ nm _ nm ≠ none
      rw [upd_same]; simp
    · show _ = upd ζ.rv nm _ nm
      rw [upd_same]
theorem val_rep {B B' : Nat → Prop} {w w' : World} : ∀ {cs : List PV} {vs : List Value}, RepL B w cs vs → cs.all valP = true → RepL B' w' cs vs
  | [], vs, h, _ => by simpa only [RepL] using h
  | c :: cs, vs, h, hl => by
    simp only [RepL] at h ⊢
    obtain ⟨x, xs, rfl, h1, h2⟩ := h
    simp only [List.all_cons, Bool.and_eq_true] at hl
    refine ⟨x, xs, rfl, ?_, val_rep h2 hl.2⟩
    cases c with
    | val u => simpa only [RepP] using h1
    | _ => simp [valP] at hl
theorem run_append_zero (t ty e : TypeId) (i : TypeInfo) (ht : P.underlying t = some (.slice e)) (hi : P.info? e = some i) (a b : Option Addr) (n c d : Nat) (hnc : n ≤ c) (h1 : c = 0 ∨ a ≠ none) (h2 : d = 0 ∨ b ≠ none) :
    (Builtin.append_ #[t, t] ty #[.slice a n c, .slice b 0 d]).run P w = .ok (.slice a n c) w := by
  cases b with
  | none =>
    have hd : d = 0 := by
      rcases h2 with h | h
      · exact h
      · exact absurd rfl h
    subst hd
    cases a with
    | none =>
      have hc : c = 0 := by
        rcases h1 with h | h
        · exact h
        · exact absurd rfl h
      subst hc
      have hn : n = 0 := by omega
      subst hn
      simp [Builtin.append_, run_underlying ht, sizeOf, typeInfo, hi, Builtin.lenOf, Builtin.firstCells]
    | some a => simp [Builtin.append_, run_underlying ht, sizeOf, typeInfo, hi, Builtin.lenOf, Builtin.firstCells, hnc, storeCells]
  | some b =>
    cases a with
    | none =>
      have hc : c = 0 := by
        rcases h1 with h | h
        · exact h
        · exact absurd rfl h
      subst hc
      have hn : n = 0 := by omega
      subst hn
      simp [Builtin.append_, run_underlying ht, sizeOf, typeInfo, hi, Builtin.lenOf, Builtin.firstCells, loadCells, loadCellsFrom]
    | some a => simp [Builtin.append_, run_underlying ht, sizeOf, typeInfo, hi, Builtin.lenOf, Builtin.firstCells, hnc, storeCells, loadCells, loadCellsFrom]
theorem opF_append (tk : TOk P T) (r : R ζ N own e h a w) {nm : Nat} (hn : ζ.ρ nm = none) {t : TypeId} {s x : Operand} (ho : o.op = .call ⟨.builtin .append, #[s, x], #[t, t]⟩) {ti te : TI} {el : TypeId} {n m : Nat} {cs news : List PV} (ht : T t = some ti) (hd : ti.d = .slice el) (hte : T el = some te)
    (hv : RepP (Bk ζ own h w) w (.fl n cs) (a.eval s)) (hx : evO e x = .p (.sl m news)) (h0 : 0 < m) (h1 : cs.length = n * te.size) (h2 : news.length = m * te.size) (h3 : cs.all valP = true) (h4 : news.all valP = true) (h5 : 0 < te.size) (h6 : n + m ≤ maxLen) (h7 : (n + m) * te.bytes ≤ 140737488355328) :
    RowGoes P ζ N e h a w o nm ⟨el, te.size, n + m, cs ++ news, false⟩ (.orow nm) := by
  have hu := under_slice (tk.ok t ti ht) hd
  obtain ⟨ie, zv, i1, i2, i3, i4⟩ := (tk.ok _ _ hte).info
  obtain ⟨ie', i5, i6⟩ := (tk.ok _ _ hte).bytes
  rw [i1] at i5; cases i5
  have hzl := (i4 (fun _ => True) w).length
  rw [(tk.ok _ _ hte).zlen, Array.length_toList] at hzl
  have hw := ev_p r hx
  simp only [RepP] at hv hw
  obtain ⟨ad, e1, k0, kr⟩ := hv
  obtain ⟨bd, c, e2, hmc, hc0, hr⟩ := hw
  have old : ∃ vs, RepL (Bk ζ own h w) w cs vs ∧ ∀ a', ad = some a' → ∀ j u, vs[j]? = some u → w.cell? (a'.add j) = some u := by
    rcases kr with hr | ⟨b, of, e3, hb, hr⟩
    · subst hr; exact ⟨[], by simp [RepL], by simp⟩
    · subst e3
      obtain ⟨vs, q1, q2⟩ := repC_cells hr
      exact ⟨vs, q1, fun a' ha' => by cases ha'; exact q2⟩
  have new : ∃ us, RepL (Bk ζ own h w) w news us ∧ ∀ b', bd = some b' → ∀ j u, us[j]? = some u → w.cell? (b'.add j) = some u := by
    rcases hr with hr | ⟨b, of, e3, hb, hr⟩
    · subst hr; exact ⟨[], by simp [RepL], by simp⟩
    · subst e3
      obtain ⟨vs, q1, q2⟩ := repC_cells hr
      exact ⟨vs, q1, fun a' ha' => by cases ha'; exact q2⟩
  obtain ⟨vs, q1, q2⟩ := old
  obtain ⟨us, p1, p2⟩ := new
  have vl : vs.length = n * ie.size := by rw [q1.length, h1, i2]
  have ul : us.length = m * ie.size := by rw [p1.length, h2, i2]
  obtain ⟨bd, rfl⟩ : ∃ b', bd = some b' := by
    cases bd with
    | none =>
      have : c = 0 := by
        rcases hc0 with h | h
        · exact h
        · exact absurd rfl h
      omega
    | some b' => exact ⟨b', rfl⟩
  have hsmall : n + m ≤ 9223372036854775807 := by simp only [maxLen] at h6; omega
  have hlen : (vs ++ us).length = (n + m) * te.size := by rw [List.length_append, vl, ul, i2, Nat.add_mul]
  have grown : ∀ old, old < n + m → (w.drew.alloc (.cells (vs.toArray ++ us.toArray ++ Builtin.zeroCells zv.cells (grownCap w (n + m) old el - (n + m))) el)).ownsRow 0 el te.size (.slice (some ⟨w.heap.size, 0, none⟩) (n + m) (grownCap w (n + m) old el)) (n + m) (vs ++ us) ∧
      w.grownBy (w.drew.alloc (.cells (vs.toArray ++ us.toArray ++ Builtin.zeroCells zv.cells (grownCap w (n + m) old el - (n + m))) el)) none := by
    intro old ho
    have hge := grownCap_ge w (n + m) old el
    have hcm : grownCap w (n + m) old el ≤ maxLen := grownCap_le_maxLen w (n + m) old el h6
    refine ⟨⟨hlen, .inr ⟨w.heap.size, _, _, rfl, Nat.zero_le _, heap_alloc_new w.drew _, hge, hcm, ?_, ?_⟩⟩, ⟨rfl, rfl, rfl, by simp, fun k hk _ => heap_alloc_old w.drew _ (by simpa using hk)⟩⟩
    · simp only [Array.size_append, List.size_toArray, size_zeroCells, hzl, vl, ul, i2, ← Nat.add_mul]
      congr 1
      omega
    · simp only [Array.toList_append, List.append_assoc]
      rw [← List.append_assoc, ← hlen]
      exact List.take_left
  have hrep : ∀ B w', RepL B w' (cs ++ news) (vs ++ us) := fun B w' => RepL.append (val_rep q1 h3) (val_rep p1 h4)
  cases ad with
  | none =>
    have hn0 : n = 0 := by
      rcases k0 with h | h
      · exact h
      · exact absurd rfl h
    subst hn0
    have hvs : vs = [] := List.eq_nil_of_length_eq_zero (by rw [vl]; simp)
    subst hvs
    have hrun := run_append_nil (P := P) w t o.type el ie zv hu i1 i3 bd m c us ul (p2 bd rfl) h0 (by omega) (by rw [i6]; simp only [Nat.zero_add] at h7; omega)
    have hg := grown 0 (by omega)
    simp only [Nat.zero_add, List.nil_append, Array.empty_append] at hg hrun
    refine row_new r hn (w' := w.drew.alloc (.cells (us.toArray ++ Builtin.zeroCells zv.cells (grownCap w m 0 el - m)) el)) (x := .slice (some ⟨w.heap.size, 0, none⟩) m (grownCap w m 0 el)) (vs := us) hg.2 ?_ (fun B => by have := hrep B (w.drew.alloc (.cells (us.toArray ++ Builtin.zeroCells zv.cells (grownCap w m 0 el - m)) el)); simpa using this) rfl (by intro k hk; simp [Value.ownBlock] at hk; omega) ?_
    · show World.ownsRow _ 0 el te.size _ (0 + m) us
      rw [Nat.zero_add]; exact hg.1
    · simp [execOp, ho, resolve, invoke, builtin, e1, e2, hrun]
  | some ad =>
    have hrun := run_append_grow (P := P) w t o.type el ie zv hu i1 i3 ad n n vs vl (q2 ad rfl) bd m c us ul (p2 bd rfl) (by omega) (by omega) (by rw [i6]; exact growslice_fits (by omega) h7)
    have hg := grown n (by omega)
    refine row_new r hn (vs := vs ++ us) hg.2 hg.1 (fun B => hrep B _) rfl (by intro k hk; simp [Value.ownBlock] at hk; omega) ?_
    simp [execOp, ho, resolve, invoke, builtin, e1, e2, hrun]
end
end Go.Sx
