/- A part of a proof; the last text of this claim says of what. -/
import Derived.Test.YtnlabeglboomlaaGreatDoorV24
import Derived.Laws.Strings2
set_option linter.unusedVariables false
set_option linter.unusedSimpArgs false
set_option linter.unusedSectionVars false
namespace Go.Sx
open Go Go.RowKit Go.Shelf Go.Proofs
structure Tag {α : Type} (a : α) : Type where
def loopK (P : Program) (G : World → Prop) (T : Tab) (N : Nat) (Y : Hint) (b : Code) (e : Env) (h : Hp) (ρ : Rws) (Q : X → Env → Hp → Rws → Prop) (t : Tag (b, e, h, ρ, Q)) : Prop := vc P G T N Y (.loop b) e h ρ Q
def CallT (P : Program) (G : World → Prop) (g : FuncId) (args : List PV) (K : PV → Prop) (t : Tag K) : Prop := CallK P G g args K
def CallN (P : Program) (G : World → Prop) (g : FuncId) (q : RowE) (args : List PV) (K : RowE → PV → Prop) (t : Tag K) : Prop := CallM P G g q args K
def cutBK (P : Program) (G : World → Prop) (T : Tab) (N : Nat) (Y : Hint) (id : Nat) (b : Code) (e : Env) (h : Hp) (ρ : Rws) (Q : X → Env → Hp → Rws → Prop) (t : Tag (b, e, h, ρ, Q)) : Prop := ∃ J : Ls → Lh → Lr → Prop, vc P G T N Y b e h ρ (cutX id (fun e h ρ => ∃ l lh lr, J l lh lr ∧ Is l lh lr e h ρ) Q) ∧ ∀ l lh lr, J l lh lr → Q .normal (envL l) (hpL lh) (rwL lr)
def blkK (c : Bool) (P : Program) (G : World → Prop) (T : Tab) (N : Nat) (Y : Hint) (id : Nat) (b : Code) (e : Env) (h : Hp) (ρ : Rws) (Q : X → Env → Hp → Rws → Prop) : Prop := match c with
  | false => vc P G T N Y b e h ρ (blockX id Q)
  | true => cutBK P G T N Y id b e h ρ Q ⟨⟩
theorem blkK_eq (P : Program) (G : World → Prop) (T : Tab) (N : Nat) (Y : Hint) (e : Env) (h : Hp) (ρ : Rws) (Q : X → Env → Hp → Rws → Prop) (id : Nat) (b : Code) : vc P G T N Y (.block id b) e h ρ Q = blkK (Y.ct.contains id) P G T N Y id b e h ρ Q := by
  unfold blkK cutBK
  cases hb : Y.ct.contains id <;> simp only [vc, hb]
def ordK (b : Bool) (pl : List (Nat × Nat)) (o : Array Oper) (A : Prop) : Prop := (b = true → orderB pl o = true) ∧ A
def dstAt : List Oper → Nat → Option Nat
  | [], _ => none
  | o :: _, 0 => o.dst
  | _ :: l, n + 1 => dstAt l n
theorem dstAt_eq : ∀ (l : List Oper) (j : Nat), dstAt l j = (l.toArray[j]?).bind (·.dst)
  | [], j => by simp [dstAt]
  | o :: l, 0 => by simp [dstAt]
  | o :: l, n + 1 => by rw [dstAt, dstAt_eq l n]; simp
def grdK2 (b : Option Bool) (sk : Bool) (d : Nat) (e : Env) (N : Nat) (K : Bool → (Bool → Env) → Prop) (S : Prop) : Prop := match b with | some b => d < N ∧ K b (fun x => upd e d (litB x)) | none => (match sk with | true => d < N ∧ S | false => False)
def grdK (d : Option Nat) (e : Env) (N : Nat) (K : Bool → (Bool → Env) → Prop) (S : Prop) : Prop := match d with | some d => grdK2 (boolOf (e d)) (skipB (e d)) d e N K S | none => False
def hpAt (h : Hp) (d : Option Nat) : Option (TypeId × List PV) := match d with | some d => h d | none => none
def freshK (x : Option (TypeId × List PV)) (d : Option Nat) (h : Hp) (f : Nat → Prop) : Prop := match d with | some d => (match x with | none => f d | some _ => False) | none => False
def rwAt (ρ : Rws) (d : Option Nat) : Option RowE := match d with | some d => ρ d | none => none
def frR2 (x : Option RowE) (d : Nat) (ρ : Rws) (f : Nat → Prop) : Prop := match x with | none => f (d + 1000) | some _ => ∃ nm, ρ nm = none ∧ f nm
def frRK (x : Option RowE) (d : Option Nat) (ρ : Rws) (f : Nat → Prop) : Prop := match d with | some d => (match x with | none => f d | some _ => frR2 (ρ (d + 1000)) d ρ f) | none => ∃ nm, ρ nm = none ∧ f nm
def pickK (b : Option Bool) (x y : SV) (h : Hp) : Res := match b with | some t => .br t x y h | none => .bad
def allocK (t : TypeId) (ti : Option TI) : Res := match ti with | some ti => .new t ti.zero | none => .bad
def boxK2 (t : TypeId) (c : Option (List PV)) : Res := match c with | some cs => .new t cs | none => .bad
def boxK (t : TypeId) (x : SV) : Res := match x with | .p y => boxK2 t (cellsP y) | _ => .bad
def loadK (h : Hp) (y : Option PV) : Res := match y with | some y => .ok (.p y) h | none => .bad
def loadK2 (h : Hp) (ti : TI) (off : Nat) (q : Option (TypeId × List PV)) : Res := match q with | some (_, cs) => loadK h (loadP ti (cs.drop off)) | none => .bad
def loadK3 (h : Hp) (ti : TI) (off : Nat) (q : Option RowE) : Res := match q with | some q => loadK h (loadP ti (q.cs.drop off)) | none => .bad
def storeK (h : Hp) (ti : TI) (nm off : Nat) (q : Option (TypeId × List PV)) (z : Option (List PV)) : Res :=
  match q, z with
  | some (T0, cs), some zs => .side (zs.length = ti.size ∧ off + zs.length ≤ cs.length ∧ zs.all leafP = true) (.p (.val undef)) (upd h nm (some (T0, cs.take off ++ zs ++ cs.drop (off + zs.length))))
  | _, _ => .bad
def foK2 (off : Nat) (t : Option TI) : Option (Nat × TI) := match t with | some tf => some (off, tf) | none => none
def foK (T : Tab) (x : Option (Nat × TypeId)) : Option (Nat × TI) := match x with | some (off, t) => foK2 off (T t) | none => none
def fieldK (h : Hp) (c : Prop) (y : Option PV) : Res := match y with | some y => .side c (.p y) h | none => .bad
def binK (h : Hp) (c : Option Value) : Res := match c with | some c => .ok (.p (.val c)) h | none => .bad
def binBo (op : BinOp) (t : Option TI) (x y : Bool) : Option Value := match t with | some ti => (match ti.d with | .bool => (match op with | .eql => some (.bool (x == y)) | .neq => some (.bool (!(x == y))) | _ => none) | _ => none) | none => none
def binAg2 (op : BinOp) (c b : Bool) : Option Value := if c then (match op with | .eql => some (.bool b) | .neq => some (.bool !b) | _ => none) else none
def binAg (op : BinOp) (t : Option TI) (x y : Option (List Value)) : Option Value := match t, x, y with | some ti, some us, some vs => if ti.eqs.isEmpty then none else binAg2 op (hasAll ti.eqs us && hasAll ti.eqs vs) (eqAll us vs) | _, _, _ => none
def buildK (h : Hp) (b : Bool) (c : Option (List PV)) : Res := match c with | some cs => .side (b = true) (.p (.agg cs)) h | none => .bad
def partsK (i : Nat) (x : SV) (l : Option (List (Nat × PV))) : Option (List (Nat × PV)) := match x, l with | .p y, some ys => some ((i, y) :: ys) | _, _ => none
def plK2 (off : Nat) (t : Option TI) : Option (Nat × Nat) := match t with | some tf => some (off, tf.size) | none => none
def plK (T : Tab) (x : Option (Nat × TypeId)) : Option (Nat × Nat) := match x with | some (off, t) => plK2 off (T t) | none => none
def plK3 (i : Nat) (t : Option TI) : Option (Nat × Nat) := match t with | some te => some (i * te.size, te.size) | none => none
def fillK (T : Tab) (d : TD) (cs : List PV) (l : List (Nat × PV)) (pl : Option (Nat × Nat)) (x : Option (List PV)) : Option (List PV) := match pl, x with | some (off, size), some xs => if xs.length = size ∧ off + size ≤ cs.length then fillP T d (cs.take off ++ xs ++ cs.drop (off + size)) l else none | _, _ => none
def bslK2 (h : Hp) (n : Nat) (te : TI) (c : Option (List PV)) : Res := match c with | some cs => .side (n * te.size ≤ 16777216 ∧ n * te.size ≠ 0 ∧ te.zero.length = te.size) (.p (.sl n cs)) h | none => .bad
def bslK (T : Tab) (h : Hp) (n : Nat) (el : TypeId) (ps : List (Nat × PV)) (t : Option TI) : Res := match t with | some te => bslK2 h n te (fillP T (.slice el) (rep n te.zero) ps) | none => .bad
def idxK (h : Hp) (n : Int) (len : Nat) (cs : List PV) (t : Option TI) : Res := match t with | some te => fieldK h (0 ≤ n ∧ n.toNat < len ∧ n.toNat * te.size + te.size ≤ cs.length) (loadP te (cs.drop (n.toNat * te.size))) | none => .bad
def iaK3 (h : Hp) (n : Int) (te : TI) (nm : Nat) (q : Option RowE) : Res := match q with | some q => .side (0 ≤ n ∧ n.toNat < q.n) (.rowp nm (n.toNat * te.size)) h | none => .bad
def iaK (ρ : Rws) (h : Hp) (n : Int) (t : Option TI) (x : SV) : Res := match t, x with | some te, .p (.sl len cs) => .side (0 ≤ n ∧ n.toNat < len ∧ n.toNat * te.size < cs.length) (.p (.ptr (cs.drop (n.toNat * te.size)))) h | some te, .orow nm => iaK3 h n te nm (ρ nm) | _, _ => .bad
def iaK2 (h : Hp) (n : Int) (len : Nat) (t : Option TI) (x : SV) : Res := match t, x with | some te, .box nm o => .side (0 ≤ n ∧ n.toNat < len) (.box nm (o + n.toNat * te.size)) h | some te, .rowp nm o => .side (0 ≤ n ∧ n.toNat < len) (.rowp nm (o + n.toNat * te.size)) h | some te, .p (.ptr cs) => .side (0 ≤ n ∧ n.toNat < len) (.p (.ptr (cs.drop (n.toNat * te.size)))) h | _, _ => .bad
def lenK (h : Hp) (q : Option RowE) : Res := match q with | some q => .ok (.p (.val (.int .i64 (q.n : Nat)))) h | none => .bad
def evPsK (x : SV) (l : Option (List PV)) : Option (List PV) := match x, l with | .p y, some ys => some (y :: ys) | _, _ => none
def rtK (q : Option RowE) : Option PV := match q with | some q => (match q.par with | true => none | false => some (.sl q.n q.cs)) | none => none
def rvK3 (ti : TI) (off : Nat) (q : Option (TypeId × List PV)) : Option PV := loadP ti (match q with | some (_, cs) => cs.drop off | none => [])
def rvK2 (ρ : Rws) (h : Hp) (t : Option TI) (x : SV) : Option PV := match t, isPtr x with | some ti, true => loadP ti (cellsAt ρ h x) | _, _ => none
def rvsK (y : Option PV) (l : Option (List PV)) : Option (List PV) := match y, l with | some y, some ys => some (y :: ys) | _, _ => none
def roK (l : Option (List PV)) : Option PV := match l with | some [y] => some y | some ys => some (.tup ys) | none => none
def elK (x : Option (Nat × SV)) : SV := match x with | some x => x.2 | none => .any
def hlK (x : Option (Nat × TypeId × List PV)) : Option (TypeId × List PV) := match x with | some x => some x.2 | none => none
def rlK (x : Option (Nat × RowE)) : Option RowE := match x with | some x => some x.2 | none => none
def valK (s : SV) (k : SV → Prop) : Prop := match s with | .p x => k (.p x) | .box a b => k (.box a b) | .orow a => k (.orow a) | .rowp a b => k (.rowp a b) | .any => k .any
theorem valK_eq (s : SV) (k : SV → Prop) : valK s k = k s := by cases s <;> rfl
@[congr] theorem valK_c {s s' : SV} {k : SV → Prop} (hs : s = s') : valK s k = valK s' k := by rw [hs]
def isNilV : Value → Bool
  | .slice none 0 0 => true
  | _ => false
def nilK (P : Program) (G : World → Prop) (T : Tab) (d : Option Nat) (op : Op) (b : Bool) (v : Value) (ty : TypeId) (e : Env) (h : Hp) (ρ : Rws) (k : SV → Env → Hp → Rws → Prop) : Prop := match b with | true => rrK P G T d op e h ρ (rNil T (T ty)) k | false => k (.p (nzC v)) e h ρ
def rNlK (el : TypeId) (te : Option TI) : RR := match te with | some te => .new ⟨el, te.size, 0, [], false⟩ True | none => .old
def rStK (nm off : Nat) (ti : TI) (q : Option RowE) (zs : Option (List PV)) : RR := match q, zs with
  | some q, some zs => .put nm { q with cs := q.cs.take off ++ zs ++ q.cs.drop (off + zs.length) } (.p (.val undef)) (zs.length = ti.size ∧ off + zs.length ≤ q.cs.length ∧ zs.all leafP = true)
  | _, _ => .bad
def rMkK (el : TypeId) (n m : Int) (te : Option TI) : RR := match te with | some te => .new ⟨el, te.size, n.toNat, rep n.toNat te.zero, false⟩ (0 ≤ n ∧ n ≤ m ∧ (te.bytes : Int) * m ≤ 281474976710656 ∧ m ≤ 9223372036854775807) | none => .bad
def rSl2 (nm : Nat) (q : RowE) (te : TI) (l m : Option Int) : RR := match l, m with | some l, some m => .set nm { q with n := m.toNat, cs := q.cs.take (m.toNat * te.size) } (.orow nm) (l = 0 ∧ 0 ≤ m ∧ m ≤ (q.n : Nat) ∧ te.size = q.sz ∧ q.par = false) | _, _ => .bad
def rSlK (nm : Nat) (e : Env) (lo hi : Option Operand) (q : Option RowE) (te : Option TI) : RR := match q, te with | some q, some te => rSl2 nm q te (bndP e lo 0) (bndP e hi (q.n : Nat)) | _, _ => .bad
def bndK (s : SV) : Option Int := match s with | .p (.val (.int _ n)) => some n | _ => none
def rApp (b : Bool) (T : Tab) (ρ : Rws) (t : Option TI) (nl : Bool) (s x : SV) : RR := match b with | true => rAppN T ρ t nl s x | false => .bad
def rApK (el : TypeId) (nm m : Nat) (news : List PV) (q : Option RowE) (te : Option TI) : RR := match q, te with
  | some q, some te => .set nm { q with n := q.n + m, cs := q.cs ++ news } (.orow nm) (news.length = m * te.size ∧ news.all leafP = true ∧ q.E = el ∧ q.sz = te.size ∧ 0 < te.size ∧ q.n + m ≤ maxLen ∧ (q.n + m) * te.bytes ≤ 140737488355328 ∧ q.par = false)
  | _, _ => .bad
def evbK (q : Option RowE) : Option PV := match q with | some q => some (.sl q.n q.cs) | none => none
def mcbK (P : Program) (G : World → Prop) (f : FuncId) (nm : Nat) (q : Option RowE) (l : List PV) (e : Env) (h : Hp) (ρ : Rws) (k : SV → Env → Hp → Rws → Prop) : Prop := match q with | some q => CallM P G f q l fun q' y => k (.p y) e h (upd ρ nm (some q')) | none => False
def mcaK (P : Program) (G : World → Prop) (T : Tab) (f : FuncId) (x : SV) (l : Option (List PV)) (e : Env) (h : Hp) (ρ : Rws) (k : SV → Env → Hp → Rws → Prop) : Prop := match x, l with | .orow nm, some l => mcbK P G f nm (ρ nm) l e h ρ k | _, _ => False
def borK (P : Program) (G : World → Prop) (f : FuncId) (l : Option (List PV)) (e : Env) (h : Hp) (ρ : Rws) (k : SV → Env → Hp → Rws → Prop) : Prop := match l with | some l => CallK P G f l fun y => k (.p (wkP y)) e h ρ | none => False
def CallTT (P : Program) (G : World → Prop) (g : FuncId) (q : RowE) (args : List PV) (K : RowE → Prop) (t : Tag K) : Prop := CallTk P G g q args K
def CallFT (P : Program) (G : World → Prop) (g : FuncId) (args : List PV) (K : RowE → Prop) (t : Tag K) : Prop := CallFk P G g args K
def tcbK (P : Program) (G : World → Prop) (f : FuncId) (nm : Nat) (q : Option RowE) (l : List PV) (e : Env) (h : Hp) (ρ : Rws) (k : SV → Env → Hp → Rws → Prop) : Prop := match q with | some q => CallTk P G f q l fun q' => k (.orow nm) (killE nm e) h (upd ρ nm (some q')) | none => False
def tcaK (P : Program) (G : World → Prop) (f : FuncId) (x : SV) (l : Option (List PV)) (e : Env) (h : Hp) (ρ : Rws) (k : SV → Env → Hp → Rws → Prop) : Prop := match x, l with | .orow nm, some l => tcbK P G f nm (ρ nm) l e h ρ k | _, _ => False
def fcaK (P : Program) (G : World → Prop) (f : FuncId) (d : Option Nat) (l : Option (List PV)) (e : Env) (h : Hp) (ρ : Rws) (k : SV → Env → Hp → Rws → Prop) : Prop := match l with | some l => CallFk P G f l fun q => freshR ρ d fun nm => k (.orow nm) e h (upd ρ nm (some q)) | none => False
def bsK (P : Program) (G : World → Prop) (T : Tab) (b : Bool) (d : Option Nat) (op : Op) (t : TypeId) (n : Nat) (l : List (Nat × Operand)) (e : Env) (h : Hp) (ρ : Rws) (k : SV → Env → Hp → Rws → Prop) : Prop := match b with
  | true => rrK P G T d op e h ρ (rLit T n (partsP e l) (T t)) k
  | false => resK P G h d (opS T ρ op e h) fun v h' => k v e h' ρ
theorem bsK_eq (P : Program) (G : World → Prop) (T : Tab) (Y : Hint) (b : Bool) (d : Option Nat) (ty : TypeId) (e : Env) (h : Hp) (ρ : Rws) (k : SV → Env → Hp → Rws → Prop) (t : TypeId) (n : Nat) (x : Nat × Operand) (l : List (Nat × Operand)) : opK P G T Y b d ty (.buildSlice t n (x :: l).toArray) e h ρ k = escK ((x :: l).map (·.2)) e h ρ (fun e h ρ => bsK P G T (Y.fl.contains t) d (.buildSlice t n (x :: l).toArray) t n (x :: l) e h ρ k) := by
  show escK ((x :: l).map (·.2)) e h ρ _ = _
  congr 1
  funext e h ρ
  unfold bsK
  cases hc : Y.fl.contains t with
  | true => cases n <;> simp only [opR, hc]
  | false => cases n <;> (simp only [opR, hc]; rfl)
def calK (P : Program) (G : World → Prop) (T : Tab) (mc tc fc b : Bool) (d : Option Nat) (f : FuncId) (l : List Operand) (e : Env) (h : Hp) (ρ : Rws) (k : SV → Env → Hp → Rws → Prop) : Prop := match mc with
  | true => (match l with | x :: xs => escK xs e h ρ fun e h ρ => mcaK P G T f (evO e x) (evPs e xs) e h ρ k | [] => False)
  | false => (match tc with
    | true => (match l with | x :: xs => escK xs e h ρ fun e h ρ => tcaK P G f (evO e x) (evPs e xs) e h ρ k | [] => False)
    | false => (match fc with
      | true => escK l e h ρ fun e h ρ => fcaK P G f d (evPs e l) e h ρ k
      | false => (match b with | true => borK P G f (evBF ρ e l) e h ρ k | false => escK l e h ρ fun e h ρ => resK P G h d (opCall (.p (.clo f [] [])) (evPs e l)) fun v h' => k v e h' ρ)))
theorem calK_eq (P : Program) (G : World → Prop) (T : Tab) (Y : Hint) (b : Bool) (d : Option Nat) (ty : TypeId) (e : Env) (h : Hp) (ρ : Rws) (k : SV → Env → Hp → Rws → Prop) (f : FuncId) (l : List Operand) (ts : Array TypeId) : opK P G T Y b d ty (.call ⟨.value (.func f), l.toArray, ts⟩) e h ρ k = calK P G T (mcHas Y f) (tcHas Y f) (fcHas Y f) b d f l e h ρ k := by
  have h1 : escOps Y b (.call ⟨.value (.func f), l.toArray, ts⟩) = (match mcHas Y f || tcHas Y f with | true => l.drop 1 | false => (match b && !fcHas Y f with | true => [] | false => l)) := rfl
  have h2 : ∀ e ρ, opR T Y b ty (.call ⟨.value (.func f), l.toArray, ts⟩) e ρ = rCall Y b e ρ (.p (.clo f [] [])) l := fun e ρ => rfl
  unfold opK calK
  rw [h1]
  simp only [h2, rCall]
  cases hm : mcHas Y f with
  | true =>
    simp only [Bool.true_or]
    cases l with
    | nil => rfl
    | cons x xs =>
      simp only [List.drop_succ_cons, List.drop_zero, rCall2, mcaK]
      congr 1
      funext e h ρ
      cases evO e x with
      | orow nm =>
        cases evPs e xs with
        | none => rfl
        | some rest =>
          simp only [mcbK]
          cases ρ nm <;> rfl
      | _ => cases evPs e xs <;> rfl
  | false =>
    simp only [Bool.false_or]
    cases ht : tcHas Y f with
    | true =>
      simp only []
      cases l with
      | nil => rfl
      | cons x xs =>
        simp only [List.drop_succ_cons, List.drop_zero, rCallT, tcaK]
        congr 1
        funext e h ρ
        cases evO e x with
        | orow nm =>
          cases evPs e xs with
          | none => rfl
          | some rest =>
            simp only [tcbK]
            cases ρ nm <;> rfl
        | _ => cases evPs e xs <;> rfl
    | false =>
      simp only []
      cases hf : fcHas Y f with
      | true =>
        simp only [Bool.not_true, Bool.and_false]
        congr 1
        funext e h ρ
        unfold fcaK rCallF
        cases evPs e l <;> rfl
      | false =>
        simp only [Bool.not_false, Bool.and_true]
        cases b with
        | false => rfl
        | true =>
          simp only [escK, rBorrow, borK]
          cases hl : evBF ρ e l <;> rfl
def cavK (P : Program) (G : World → Prop) (T : Tab) (Y : Hint) (b : Bool) (d : Option Nat) (ty : TypeId) (f : Nat) (l : List Operand) (ts : Array TypeId) (e : Env) (h : Hp) (ρ : Rws) (k : SV → Env → Hp → Rws → Prop) : Prop := opK P G T Y b d ty (.call ⟨.value (.tmp f), l.toArray, ts⟩) e h ρ k
def rClK (b tc fc : Bool) (e : Env) (ρ : Rws) (g : FuncId) (l : List Operand) : RR := match b with | true => rCall2 e ρ g l | false => (match tc with | true => rCallT e ρ g l | false => (match fc with | true => rCallF g (evPs e l) | false => .old))
def regEscL (Y : Hint) (l : List Oper) : List Operand := l.flatMap fun o => escOps Y false o.op
def selL (Lt : List Nat) (b : Bool) : Nat → List Oper → List Oper
  | _, [] => []
  | i, o :: l => match isStore o.op with | true => [] | false => (match Lt.contains i == b with | true => o :: selL Lt b (i + 1) l | false => selL Lt b (i + 1) l)
def tailL (l : List Oper) : List Oper := l.drop (headN l)
def hdK (b c : Bool) (o : Oper) (l : List Oper) : List Oper := match b with | true => [] | false => (match c with | true => o :: l | false => l)
def tlK2 (b : Bool) (o : Oper) (l : List Oper) : List Oper := match b with | true => o :: l | false => tailL l
theorem selL_cons (Lt : List Nat) (b : Bool) (i : Nat) (o : Oper) (l : List Oper) : selL Lt b i (o :: l) = hdK (isStore o.op) (Lt.contains i == b) o (selL Lt b (i + 1) l) := by
  rw [selL]; unfold hdK; cases isStore o.op <;> cases (Lt.contains i == b) <;> rfl
theorem tailL_cons (o : Oper) (l : List Oper) : tailL (o :: l) = tlK2 (isStore o.op) o l := by
  unfold tailL tlK2; rw [headN]; cases isStore o.op <;> rfl
theorem selL_eq (Lt : List Nat) (b : Bool) (f : Nat → Oper) : ∀ (l : List Oper) (i : Nat), (∀ j, j < l.length → f (i + j) = l[j]!) → selL Lt b i l = ((List.range' i (headN l)).filter fun k => Lt.contains k == b).map f
  | [], i, _ => rfl
  | o :: l, i, hf => by
    rw [selL, headN]
    have ih := selL_eq Lt b f l (i + 1) (fun j hj => by have := hf (j + 1) (by simpa using hj); rw [show i + 1 + j = i + (j + 1) by omega, this]; simp)
    have h0 : f i = o := by have := hf 0 (by simp); simpa using this
    cases isStore o.op with
    | true => rfl
    | false =>
      simp only []
      rw [List.range'_succ, List.filter_cons]
      cases hc : (Lt.contains i == b) <;> simp only [hc, if_true, Bool.false_eq_true, if_false, ih, List.map_cons, h0]
theorem sel_all (Lt : List Nat) (o : List Oper) : (lightI Lt (headN o) ++ restI Lt (headN o)).map (fun i => o.toArray[i]!) = selL Lt true 0 o ++ selL Lt false 0 o := by
  have hf : ∀ j, j < o.length → (fun i => o.toArray[i]!) (0 + j) = o[j]! := by
    intro j hj; simp [hj]
  rw [selL_eq Lt true _ o 0 hf, selL_eq Lt false _ o 0 hf, List.map_append]
  unfold lightI restI
  rw [List.range_eq_range']
  congr 2
  · apply List.filter_congr; intro x _; cases Lt.contains x <;> rfl
  · apply List.filter_congr; intro x _; cases Lt.contains x <;> rfl
def ordT (Lt : List Nat) (o : List Oper) (A : Prop) : Prop := orderT Lt (headN o) o.toArray = true ∧ A
def regMovL (b : Bool) (l : List Oper) : List Operand := match b with | true => l.flatMap fun o => moveOp o.op | false => []
def tlK3 (b : Bool) (L : List Nat) (r : List (Nat × List Nat)) (n : Nat) : Option (List Nat) := match b with | true => some L | false => tlOf r n
def tlK (b : Option (List Nat)) (P : Program) (G : World → Prop) (T : Tab) (N : Nat) (Y : Hint) (i : Nat) (o : List Oper) (e : Env) (h : Hp) (ρ : Rws) (Q : X → Env → Hp → Rws → Prop) : Prop := match b with
  | none => escK (regEscL Y o ++ regMovL (Y.fz.contains i) o) e h ρ (fun e h ρ => ordK (Y.ex.contains i) (plOf e o.toArray) o.toArray (vcL P G T ρ N o.toArray o e h (fun e h => Q .normal e h ρ)))
  | some Lt => escK (regEscL Y o ++ regMovL (Y.fz.contains i) o) e h ρ (fun e h ρ => ordT Lt o (vcL P G T ρ N o.toArray (selL Lt true 0 o ++ selL Lt false 0 o) e h (fun e h => vcR P G T N Y false o.toArray (tailL o) e h ρ fun e h ρ => Q .normal e h ρ)))
def enP (o : List Oper) (t : ET) (A : Prop) : Prop := entB o.toArray t = true ∧ A
def enK (b : Option ET) (P : Program) (G : World → Prop) (T : Tab) (N : Nat) (Y : Hint) (i : Nat) (o : List Oper) (e : Env) (h : Hp) (ρ : Rws) (Q : X → Env → Hp → Rws → Prop) : Prop := match b with
  | none => tlK (tlOf Y.tl i) P G T N Y i o e h ρ Q
  | some t => enP o t (vcT P G T N Y (Y.bw.contains i) o t e h ρ fun e h ρ => Q .normal e h ρ)
theorem enK_eq (P : Program) (G : World → Prop) (T : Tab) (N : Nat) (Y : Hint) (i : Nat) (o : List Oper) (e : Env) (h : Hp) (ρ : Rws) (Q : X → Env → Hp → Rws → Prop) : vc P G T N Y (.region i o.toArray true) e h ρ Q = enK (enOf Y.en i) P G T N Y i o e h ρ Q := by
  unfold enK
  cases he : enOf Y.en i with
  | some t => simp only [vc, he]; rfl
  | none =>
    unfold tlK
    cases hb : tlOf Y.tl i with
    | none => simp only [vc, he, hb]; rfl
    | some Lt => simp only [vc, he, hb, sel_all]; rfl
def enK3 (b : Bool) (L : ET) (r : List (Nat × ET)) (n : Nat) : Option ET := match b with | true => some L | false => enOf r n
def stK (l : List Oper) (f : List Oper → Prop) : Prop := f l
def fmK (x : Option (Option Nat × Operand)) (f : Option Nat → Operand → Prop) : Prop := match x with | some (d, x) => f d x | none => False
def escC (b : Bool) (l : List Operand) : List Operand := match b with | true => l.drop 1 | false => l
def cvbK (h : Hp) (m n : Nat) (te : Option TI) (l : Option (List UInt8)) : Res := match te, l with | some te, some l => .side (te.d = .int .u8 ∧ te.size = 1 ∧ n = m) (.p (.val (.string ⟨l.toArray⟩))) h | _, _ => .bad
def lkK (h : Hp) (t : Option TI) (g : Option FuncId) : Res := match t, g with | some te, some g => .side (te.d = .int .u8) (.p (.clo g [] [])) h | _, _ => .bad
def bypK (n : Int) (l : Option (List UInt8)) : Option (List UInt8) := match l with | some l => some (UInt8.ofNat n.toNat :: l) | none => none
def slcK (h : Hp) (l m : Option Int) (n : Nat) (f : Int → Int → SV) : Res := match l, m with | some l, some m => .side (0 ≤ l ∧ l ≤ m ∧ m ≤ (n : Nat)) (f l m) h | _, _ => .bad
def slsK (e : Env) (h : Hp) (n : Nat) (cs : List PV) (lo hi : Option Operand) (te : Option TI) : Res := match te with | some te => slcK h (bndP e lo 0) (bndP e hi (n : Nat)) n (fun l m => .p (.sl (m.toNat - l.toNat) ((cs.take (m.toNat * te.size)).drop (l.toNat * te.size)))) | none => .bad
section
variable {P : Program} {G : World → Prop} {T : Tab} {N : Nat} {Y : Hint} {e : Env} {h h0 : Hp} {ρ : Rws} {d : Option Nat} {k : SV → Env → Hp → Rws → Prop} {k1 : SV → Hp → Prop} {kE : Env → Hp → Rws → Prop}
@[congr] theorem resK_c {r r' : Res} (hr : r = r') : resK P G h0 d r k1 = resK P G h0 d r' k1 := by rw [hr]
@[congr] theorem rrK_c {op : Op} {r r' : RR} (hr : r = r') : rrK P G T d op e h ρ r k = rrK P G T d op e h ρ r' k := by rw [hr]
@[congr] theorem vcIf_c {b b' : Bool} {A B : Prop} (hb : b = b') : vcIf b A B = vcIf b' A B := by rw [hb]
@[congr] theorem condK_c {b b' : Option Bool} {A B : Prop} (hb : b = b') : condK b A B = condK b' A B := by rw [hb]
@[congr] theorem ordK_c {b b' : Bool} {pl : List (Nat × Nat)} {o : Array Oper} {A : Prop} (hb : b = b') : ordK b pl o A = ordK b' pl o A := by rw [hb]
@[congr] theorem freshK_c {x x' : Option (TypeId × List PV)} {f : Nat → Prop} (hx : x = x') : freshK x d h f = freshK x' d h f := by rw [hx]
@[congr] theorem frRK_c {x x' : Option RowE} {f : Nat → Prop} (hx : x = x') : frRK x d ρ f = frRK x' d ρ f := by rw [hx]
@[congr] theorem frR2_c {x x' : Option RowE} {d : Nat} {f : Nat → Prop} (hx : x = x') : frR2 x d ρ f = frR2 x' d ρ f := by rw [hx]
@[congr] theorem grdK_c {d d' : Option Nat} {K : Bool → (Bool → Env) → Prop} {S : Prop} (hd : d = d') : grdK d e N K S = grdK d' e N K S := by rw [hd]
@[congr] theorem grdK2_c {b b' : Option Bool} {sk sk' : Bool} {d : Nat} {K : Bool → (Bool → Env) → Prop} {S : Prop} (hb : b = b') (hs : sk = sk') : grdK2 b sk d e N K S = grdK2 b' sk' d e N K S := by rw [hb, hs]
@[congr] theorem escK_c {l l' : List Operand} (hl : l = l') : escK l e h ρ kE = escK l' e h ρ kE := by rw [hl]
@[congr] theorem escS_c {s s' : SV} (hs : s = s') : escS s e h ρ kE = escS s' e h ρ kE := by rw [hs]
@[congr] theorem escR_c {nm : Nat} {q q' : Option RowE} (hq : q = q') : escR nm q e h ρ kE = escR nm q' e h ρ kE := by rw [hq]
@[congr] theorem escB_c {nm : Nat} {q q' : Option (TypeId × List PV)} (hq : q = q') : escB nm q e h ρ kE = escB nm q' e h ρ kE := by rw [hq]
@[congr] theorem evFT_c {ρ : Rws} {e : Env} {t : Nat} {s s' : SV} {l : List Operand} (hs : s = s') : evFT ρ e t s l = evFT ρ e t s' l := by rw [hs]
@[congr] theorem nilK_c {op : Op} {b b' : Bool} {v : Value} {ty : TypeId} (hb : b = b') : nilK P G T d op b v ty e h ρ k = nilK P G T d op b' v ty e h ρ k := by rw [hb]
@[congr] theorem calK_c {mc mc' tc tc' fc fc' b b' : Bool} {f : FuncId} {l : List Operand} (hm : mc = mc') (ht : tc = tc') (hf : fc = fc') (hb : b = b') : calK P G T mc tc fc b d f l e h ρ k = calK P G T mc' tc' fc' b' d f l e h ρ k := by rw [hm, ht, hf, hb]
@[congr] theorem tcaK_c {f : FuncId} {x x' : SV} {l l' : Option (List PV)} (hx : x = x') (hl : l = l') : tcaK P G f x l e h ρ k = tcaK P G f x' l' e h ρ k := by rw [hx, hl]
@[congr] theorem tcbK_c {f : FuncId} {nm : Nat} {q q' : Option RowE} {l : List PV} (hq : q = q') : tcbK P G f nm q l e h ρ k = tcbK P G f nm q' l e h ρ k := by rw [hq]
@[congr] theorem fcaK_c {f : FuncId} {d : Option Nat} {l l' : Option (List PV)} (hl : l = l') : fcaK P G f d l e h ρ k = fcaK P G f d l' e h ρ k := by rw [hl]
@[congr] theorem cavK_c {b b' : Bool} {ty : TypeId} {f : Nat} {l : List Operand} {ts : Array TypeId} (hb : b = b') : cavK P G T Y b d ty f l ts e h ρ k = cavK P G T Y b' d ty f l ts e h ρ k := by rw [hb]
@[congr] theorem blkK_c {c c' : Bool} {i : Nat} {b : Code} {Q : X → Env → Hp → Rws → Prop} (hb : c = c') : blkK c P G T N Y i b e h ρ Q = blkK c' P G T N Y i b e h ρ Q := by rw [hb]
@[congr] theorem enK_c {b b' : Option ET} {i : Nat} {o : List Oper} {Q : X → Env → Hp → Rws → Prop} (hb : b = b') : enK b P G T N Y i o e h ρ Q = enK b' P G T N Y i o e h ρ Q := by rw [hb]
@[congr] theorem stK_c {l l' : List Oper} {f : List Oper → Prop} (hl : l = l') : stK l f = stK l' f := by rw [hl]
@[congr] theorem fmK_c {x x' : Option (Option Nat × Operand)} {f : Option Nat → Operand → Prop} (hx : x = x') : fmK x f = fmK x' f := by rw [hx]
@[congr] theorem enP_c {o : List Oper} {t : ET} {A : Prop} : enP o t A = enP o t A := rfl
@[congr] theorem tlK_c {b b' : Option (List Nat)} {i : Nat} {o : List Oper} {Q : X → Env → Hp → Rws → Prop} (hb : b = b') : tlK b P G T N Y i o e h ρ Q = tlK b' P G T N Y i o e h ρ Q := by rw [hb]
@[congr] theorem tlK2_c {b b' : Bool} {o : Oper} {l : List Oper} (hb : b = b') : tlK2 b o l = tlK2 b' o l := by rw [hb]
@[congr] theorem borK_c {f : FuncId} {l l' : Option (List PV)} (hl : l = l') : borK P G f l e h ρ k = borK P G f l' e h ρ k := by rw [hl]
@[congr] theorem mcaK_c {f : FuncId} {x x' : SV} {l l' : Option (List PV)} (hx : x = x') (hl : l = l') : mcaK P G T f x l e h ρ k = mcaK P G T f x' l' e h ρ k := by rw [hx, hl]
@[congr] theorem bsK_c {b b' : Bool} {op : Op} {t : TypeId} {n : Nat} {l : List (Nat × Operand)} (hb : b = b') : bsK P G T b d op t n l e h ρ k = bsK P G T b' d op t n l e h ρ k := by rw [hb]
@[congr] theorem mcbK_c {f : FuncId} {nm : Nat} {q q' : Option RowE} {l : List PV} (hq : q = q') : mcbK P G f nm q l e h ρ k = mcbK P G f nm q' l e h ρ k := by rw [hq]
end
theorem isNil_const (v : Value) : isNil (.const v) = isNilV v := by
  unfold isNil isNilV
  split
  · rename_i h; cases h; rfl
  · rename_i h
    split
    · rename_i h2; exact absurd rfl h
    · rfl
theorem envL_cons (t a : Nat) (s : SV) (l : Ls) : envL ((a, s) :: l) t = if t = a then s else envL l t := by
  unfold envL
  rw [List.find?_cons]
  by_cases h : t = a
  · subst h; simp
  · have : (a == t) = false := by rw [beq_eq_false_iff_ne]; exact fun e => h e.symm
    simp [this, h]
theorem hpL_cons (t a : Nat) (s : TypeId × List PV) (l : Lh) : hpL ((a, s) :: l) t = if t = a then some s else hpL l t := by
  unfold hpL
  rw [List.find?_cons]
  by_cases h : t = a
  · subst h; simp
  · have : (a == t) = false := by rw [beq_eq_false_iff_ne]; exact fun e => h e.symm
    simp [this, h]
theorem rwL_cons (t a : Nat) (s : RowE) (l : Lr) : rwL ((a, s) :: l) t = if t = a then some s else rwL l t := by
  unfold rwL
  rw [List.find?_cons]
  by_cases h : t = a
  · subst h; simp
  · have : (a == t) = false := by rw [beq_eq_false_iff_ne]; exact fun e => h e.symm
    simp [this, h]
theorem ba_get (l : List UInt8) (i : Nat) : (⟨l.toArray⟩ : ByteArray)[i]? = l[i]? := by
  by_cases h : i < l.length
  · rw [List.getElem?_eq_getElem h, getElem?_pos (⟨l.toArray⟩ : ByteArray) i h]; rfl
  · rw [List.getElem?_eq_none (by omega), getElem?_neg (⟨l.toArray⟩ : ByteArray) i h]
theorem ba_app (l m : List UInt8) : (⟨l.toArray⟩ : ByteArray) ++ ⟨m.toArray⟩ = ⟨(l ++ m).toArray⟩ := by
  apply ByteArray.ext
  rw [ByteArray.data_append]
  simp
set_option maxRecDepth 100000 in
theorem sx :
  (∀ (h0 : Hp)(d : Nat)(f : Nat → Prop), freshK none (some d) h0 f = f d) ∧
  (∀ (A B : Prop), vcIf true A B = A) ∧
  (∀ (A B : Prop), vcIf false A B = B) ∧
  (∀ (A B : Prop)(t : Bool), condK (some t) A B = vcIf t A B) ∧
  (∀ (A : Prop)(pl : List (Nat × Nat))(o : Array Oper), ordK false pl o A = A) ∧
  (∀ (A : Prop)(pl : List (Nat × Nat))(o : Array Oper), ordK true pl o A = (orderB pl o = true ∧ A)) ∧
  (∀ (h : Hp)(d : Nat), hpAt h (some d) = h d) ∧
  (∀ (e : Env)(N d : Nat)(K : Bool → (Bool → Env) → Prop)(S : Prop), grdK (some d) e N K S = grdK2 (boolOf (e d)) (skipB (e d)) d e N K S) ∧
  (∀ (e : Env)(N d : Nat)(b sk : Bool)(K : Bool → (Bool → Env) → Prop)(S : Prop), grdK2 (some b) sk d e N K S = (d < N ∧ K b (fun x => upd e d (litB x)))) ∧
  (∀ (e : Env)(d : Nat)(v : SV), updo e (some d) v = upd e d v) ∧
  (∀ (e : Env)(v : SV), updo e none v = e) ∧
  (∀ (b : Bool), litB b = .p (.val (.bool b))) ∧
  (∀ (b : Bool), boolOf (.p (.val (.bool b))) = some b) ∧
  (∀ (α : Type)(f : Nat → α)(i j : Nat)(x : α), upd f i x j = if j = i then x else f j) ∧
  (∀ (e : Env)(t : Nat), evO e (.tmp t) = e t) ∧
  (∀ (h : Hp)(x : PV), sv (.p x) h = .ok (.p x) h) ∧
  (∀ (h : Hp)(a b : Nat), sv (.box a b) h = .ok (.box a b) h) ∧
  (∀ (T : Tab)(ρ : Rws)(e : Env)(h : Hp)(x : Operand), opS T ρ (.move x) e h = sv (evO e x) h) ∧
  (∀ (T : Tab)(ρ : Rws)(e : Env)(h : Hp)(x : Operand), opS T ρ (.assign x) e h = sv (evO e x) h) ∧
  (∀ (T : Tab)(ρ : Rws)(e : Env)(h : Hp)(c x y : Operand), opS T ρ (.pick c x y) e h = pickK (boolOf (evO e c)) (evO e x) (evO e y) h) ∧
  (∀ (h : Hp)(b : Bool)(x y : SV), pickK (some b) x y h = .br b x y h) ∧
  (∀ (T : Tab)(ρ : Rws)(e : Env)(h : Hp)(t : TypeId), opS T ρ (.alloc t) e h = allocK t (T t)) ∧
  (∀ (t : TypeId)(ti : TI), allocK t (some ti) = .new t ti.zero) ∧
  (∀ (T : Tab)(ρ : Rws)(e : Env)(h : Hp)(t : TypeId)(x : Operand), opS T ρ (.box t x) e h = boxK t (evO e x)) ∧
  (∀ (t : TypeId)(y : PV), boxK t (.p y) = boxK2 t (cellsP y)) ∧
  (∀ (t : TypeId)(y : List PV), boxK2 t (some y) = .new t y) ∧
  (∀ (h : Hp)(ti : TI)(off : Nat)(t : TypeId)(cs : List PV), loadK2 h ti off (some (t, cs)) = loadK h (loadP ti (cs.drop off))) ∧
  (∀ (h : Hp)(y : PV), loadK h (some y) = .ok (.p y) h) ∧
  (∀ (T : Tab)(ρ : Rws)(e : Env)(h : Hp)(t : TypeId)(x y : Operand), opS T ρ (.store t x y) e h = opStore h (T t) (evO e x) (evO e y)) ∧
  (∀ (h : Hp)(nm off : Nat)(ti : TI)(z : PV), opStore h (some ti) (.box nm off) (.p z) = storeK h ti nm off (h nm) (cellsP z)) ∧
  (∀ (h : Hp)(nm off : Nat)(ti : TI)(T0 : TypeId)(cs zs : List PV), storeK h ti nm off (some (T0, cs)) (some zs) = .side (zs.length = ti.size ∧ off + zs.length ≤ cs.length ∧ zs.all leafP = true) (.p (.val undef)) (upd h nm (some (T0, cs.take off ++ zs ++ cs.drop (off + zs.length))))) ∧
  (∀ (T : Tab)(ti : TI)(f : Nat), opFO T (some ti) f = fieldOff T ti f) ∧
  (∀ (btz : Nat)(T : Tab)(n : Nat)(a : Bool)(fs : List (Nat × TypeId))(z : List PV)(q : List EK)(f : Nat), fieldOff T ⟨n, a, .struct fs, z, q, btz⟩ f = foK T fs[f]?) ∧
  (∀ (T : Tab)(off : Nat)(t : TypeId), foK T (some (off, t)) = foK2 off (T t)) ∧
  (∀ (off : Nat)(tf : TI), foK2 off (some tf) = some (off, tf)) ∧
  (∀ (T : Tab)(ρ : Rws)(e : Env)(h : Hp)(t : TypeId)(x : Operand)(f : Nat), opS T ρ (.field t x f) e h = opField h (opFO T (T t) f) (evO e x)) ∧
  (∀ (h : Hp)(off : Nat)(cs : List PV)(tf : TI), opField h (some (off, tf)) (.p (.agg cs)) = fieldK h (off + tf.size ≤ cs.length) (loadP tf (cs.drop off))) ∧
  (∀ (h : Hp)(c : Prop)(y : PV), fieldK h c (some y) = .side c (.p y) h) ∧
  (∀ (T : Tab)(ρ : Rws)(e : Env)(h : Hp)(op : BinOp)(t t' : TypeId)(x y : Operand), opS T ρ (.binOp op t x y t') e h = opBin T h op t (evO e x) (evO e y)) ∧
  (∀ (T : Tab)(h : Hp)(op : BinOp)(t : TypeId)(x y : PV), opBin T h op t (.p x) (.p y) = binK h (binS T op t x y)) ∧
  (∀ (h : Hp)(c : Value), binK h (some c) = .ok (.p (.val c)) h) ∧
  (∀ (T : Tab)(op : BinOp)(t : TypeId)(k : IntKind)(x y : Int), binS T op t (.val (.int k x)) (.val (.int k y)) = binI op k x y) ∧
  (∀ (T : Tab)(op : BinOp)(t : TypeId)(x y : ByteArray), binS T op t (.val (.string x)) (.val (.string y)) = binB op x y) ∧
  (∀ (T : Tab)(op : BinOp)(t : TypeId)(x y : Bool), binS T op t (.val (.bool x)) (.val (.bool y)) = binBo op (T t) x y) ∧
  (∀ (btz : Nat)(n : Nat)(a : Bool)(z : List PV)(q : List EK)(x y : Bool), binBo .eql (some ⟨n, a, .bool, z, q, btz⟩) x y = some (.bool (x == y))) ∧
  (∀ (btz : Nat)(n : Nat)(a : Bool)(z : List PV)(q : List EK)(x y : Bool), binBo .neq (some ⟨n, a, .bool, z, q, btz⟩) x y = some (.bool (!(x == y)))) ∧
  (∀ (T : Tab)(op : BinOp)(t : TypeId)(x y : List PV), binS T op t (.agg x) (.agg y) = binAg op (T t) (valsOf x) (valsOf y)) ∧
  (∀ (btz : Nat)(op : BinOp)(n : Nat)(a : Bool)(d : TD)(z : List PV)(q : EK)(qs : List EK)(x y : List Value), binAg op (some ⟨n, a, d, z, q :: qs, btz⟩) (some x) (some y) = binAg2 op (hasAll (q :: qs) x && hasAll (q :: qs) y) (eqAll x y)) ∧
  (∀ (b : Bool), binAg2 .eql true b = some (.bool b)) ∧
  (∀ (b : Bool), binAg2 .neq true b = some (.bool !b)) ∧
  (valsOf [] = some []) ∧
  (∀ (v : Value)(l : List PV), valsOf (.val v :: l) = (valsOf l).map (v :: ·)) ∧
  (∀ (k : IntKind)(x y : Int), binI .add k x y = some (.int k (k.wrap (x + y)))) ∧
  (∀ (k : IntKind)(x y : Int), binI .sub k x y = some (.int k (k.wrap (x - y)))) ∧
  (∀ (k : IntKind)(x y : Int), binI .mul k x y = some (.int k (k.wrap (x * y)))) ∧
  (∀ (k : IntKind)(x y : Int), binI .quo k x y = if y = 0 then none else some (.int k (k.wrap (x.tdiv y)))) ∧
  (∀ (k : IntKind)(x y : Int), binI .rem k x y = if y = 0 then none else some (.int k (x.tmod y))) ∧
  (∀ (k : IntKind)(x y : Int), binI .eql k x y = some (.bool (x == y))) ∧
  (∀ (k : IntKind)(x y : Int), binI .neq k x y = some (.bool (x != y))) ∧
  (∀ (k : IntKind)(x y : Int), binI .lss k x y = some (.bool (decide (x < y)))) ∧
  (∀ (k : IntKind)(x y : Int), binI .leq k x y = some (.bool (decide (x ≤ y)))) ∧
  (∀ (k : IntKind)(x y : Int), binI .gtr k x y = some (.bool (decide (x > y)))) ∧
  (∀ (k : IntKind)(x y : Int), binI .geq k x y = some (.bool (decide (x ≥ y)))) ∧
  (∀ (x y : ByteArray), binB .add x y = if x.size + y.size < 9223372036854775808 then some (.string (x ++ y)) else none) ∧
  (∀ (x y : ByteArray), binB .eql x y = some (.bool (x.toList == y.toList))) ∧
  (∀ (x y : ByteArray), binB .neq x y = some (.bool (!(x.toList == y.toList)))) ∧
  (∀ (T : Tab)(ρ : Rws)(e : Env)(h : Hp)(op : UnOp)(t : TypeId)(x : Operand), opS T ρ (.unOp op t x) e h = opUn h op (evO e x)) ∧
  (∀ (h : Hp)(b : Bool), opUn h .not (.p (.val (.bool b))) = .ok (.p (.val (.bool !b))) h) ∧
  (∀ (h : Hp)(k : IntKind)(n : Int), opUn h .neg (.p (.val (.int k n))) = .ok (.p (.val (.int k (k.wrap (0 - n))))) h) ∧
  (∀ (T : Tab)(ρ : Rws)(e : Env)(h : Hp)(x : Operand)(i : Nat), opS T ρ (.extract x i) e h = opExtract h (evO e x) i) ∧
  (∀ (h : Hp)(vs : List PV)(i : Nat), opExtract h (.p (.tup vs)) i = loadK h vs[i]?) ∧
  (∀ (T : Tab)(ρ : Rws)(e : Env)(h : Hp)(t : TypeId)(ps : List (Nat × Operand)), opS T ρ (.build t ps.toArray) e h = opBuild T h (T t) (partsP e ps)) ∧
  (∀ (T : Tab)(h : Hp)(ti : TI)(ps : List (Nat × PV)), opBuild T h (some ti) (some ps) = buildK h (partsOk T ti.d) (fillP T ti.d ti.zero ps)) ∧
  (∀ (h : Hp)(b : Bool)(cs : List PV), buildK h b (some cs) = .side (b = true) (.p (.agg cs)) h) ∧
  (∀ (e : Env), partsP e [] = some []) ∧
  (∀ (e : Env)(i : Nat)(x : Operand)(l : List (Nat × Operand)), partsP e ((i, x) :: l) = partsK i (evO e x) (partsP e l)) ∧
  (∀ (i : Nat)(y : PV)(l : List (Nat × PV)), partsK i (.p y) (some l) = some ((i, y) :: l)) ∧
  (∀ (T : Tab)(fs : List (Nat × TypeId)), partsOk T (.struct fs) = fs.all fun f => (T f.2).isSome) ∧
  (∀ (T : Tab)(n : Nat)(e : TypeId), partsOk T (.array n e) = (T e).isSome) ∧
  (∀ (T : Tab)(d : TD)(cs : List PV), fillP T d cs [] = some cs) ∧
  (∀ (T : Tab)(d : TD)(cs : List PV)(i : Nat)(x : PV)(l : List (Nat × PV)), fillP T d cs ((i, x) :: l) = fillK T d cs l (placeP T d i) (cellsP x)) ∧
  (∀ (T : Tab)(d : TD)(cs xs : List PV)(l : List (Nat × PV))(off size : Nat), fillK T d cs l (some (off, size)) (some xs) = if xs.length = size ∧ off + size ≤ cs.length then fillP T d (cs.take off ++ xs ++ cs.drop (off + size)) l else none) ∧
  (∀ (T : Tab)(fs : List (Nat × TypeId))(i : Nat), placeP T (.struct fs) i = plK T fs[i]?) ∧
  (∀ (T : Tab)(off : Nat)(t : TypeId), plK T (some (off, t)) = plK2 off (T t)) ∧
  (∀ (off : Nat)(ti : TI), plK2 off (some ti) = some (off, ti.size)) ∧
  (∀ (T : Tab)(n i : Nat)(e : TypeId), placeP T (.array n e) i = plK3 i (T e)) ∧
  (∀ (T : Tab)(i : Nat)(e : TypeId), placeP T (.slice e) i = plK3 i (T e)) ∧
  (∀ (i : Nat)(ti : TI), plK3 i (some ti) = some (i * ti.size, ti.size)) ∧
  (∀ (cs : List PV), cellsP (.agg cs) = some cs) ∧
  (∀ (n : Nat)(cs : List PV), cellsP (.sl n cs) = some [.sl n cs]) ∧
  (∀ (k : IntKind)(n : Int), cellsP (.val (.int k n)) = some [.val (.int k n)]) ∧
  (∀ (b : Bool), cellsP (.val (.bool b)) = some [.val (.bool b)]) ∧
  (∀ (s : ByteArray), cellsP (.val (.string s)) = some [.val (.string s)]) ∧
  (∀ (f : Fn)(a b : Array Value), cellsP (.val (.func f a b)) = some [.val (.func f a b)]) ∧
  (∀ (n : Nat)(cs : List PV), leafP (.sl n cs) = true) ∧
  (∀ (k : IntKind)(n : Int), leafP (.val (.int k n)) = true) ∧
  (∀ (b : Bool), leafP (.val (.bool b)) = true) ∧
  (∀ (s : ByteArray), leafP (.val (.string s)) = true) ∧
  (∀ (f : Fn)(a b : Array Value), leafP (.val (.func f a b)) = true) ∧
  (∀ (btz : Nat)(n : Nat)(d : TD)(z : List PV)(q : List EK)(cs : List PV), loadP ⟨n, true, d, z, q, btz⟩ cs = if n ≤ cs.length then some (.agg (cs.take n)) else none) ∧
  (∀ (btz : Nat)(n : Nat)(d : TD)(z : List PV)(q : List EK)(c : PV)(cs : List PV), loadP ⟨n, false, d, z, q, btz⟩ (c :: cs) = some c) ∧
  (∀ (btz : Nat)(T : Tab)(h : Hp)(m n : Nat)(a : Bool)(el : TypeId)(z : List PV)(q : List EK)(ps : List (Nat × PV)), opBuildSlice T h (some ⟨m, a, .slice el, z, q, btz⟩) n (some ps) = bslK T h n el ps (T el)) ∧
  (∀ (T : Tab)(h : Hp)(n : Nat)(el : TypeId)(te : TI)(ps : List (Nat × PV)), bslK T h n el ps (some te) = bslK2 h n te (fillP T (.slice el) (rep n te.zero) ps)) ∧
  (∀ (h : Hp)(n : Nat)(te : TI)(cs : List PV), bslK2 h n te (some cs) = .side (n * te.size ≤ 16777216 ∧ n * te.size ≠ 0 ∧ te.zero.length = te.size) (.p (.sl n cs)) h) ∧
  (∀ (l : List PV), rep 0 l = []) ∧
  (∀ (n : Nat)(l : List PV), rep (n + 1) l = l ++ rep n l) ∧
  (∀ (T : Tab)(ρ : Rws)(e : Env)(h : Hp)(t : TypeId)(x i : Operand), opS T ρ (.index t x i) e h = opIndex T h (T t) (evO e i) (evO e x)) ∧
  (∀ (btz : Nat)(T : Tab)(h : Hp)(m : Nat)(a : Bool)(z : List PV)(q : List EK)(k : IntKind)(n : Int)(s : ByteArray), opIndex T h (some ⟨m, a, .string, z, q, btz⟩) (.p (.val (.int k n))) (.p (.val (.string s))) = .side (0 ≤ n ∧ n.toNat < s.size) (.p (.val (.int .u8 ((s[n.toNat]?.getD 0).toNat : Int)))) h) ∧
  (∀ (btz : Nat)(T : Tab)(h : Hp)(m len : Nat)(el : TypeId)(a : Bool)(z : List PV)(q : List EK)(k : IntKind)(n : Int)(cs : List PV), opIndex T h (some ⟨m, a, .array len el, z, q, btz⟩) (.p (.val (.int k n))) (.p (.agg cs)) = idxK h n len cs (T el)) ∧
  (∀ (h : Hp)(n : Int)(len : Nat)(cs : List PV)(te : TI), idxK h n len cs (some te) = fieldK h (0 ≤ n ∧ n.toNat < len ∧ n.toNat * te.size + te.size ≤ cs.length) (loadP te (cs.drop (n.toNat * te.size)))) ∧
  (∀ (h : Hp)(k k' : IntKind)(a b : Int), opMax h (.p (.val (.int k a))) (.p (.val (.int k' b))) = .side (k = k') (.p (.val (.int k (if b > a then b else a)))) h) ∧
  (∀ (h : Hp)(k k' : IntKind)(a b : Int), opMin h (.p (.val (.int k a))) (.p (.val (.int k' b))) = .side (k = k') (.p (.val (.int k (if b < a then b else a)))) h) ∧
  (∀ (e : Env), evPs e [] = some []) ∧
  (∀ (e : Env)(x : Operand)(l : List Operand), evPs e (x :: l) = evPsK (evO e x) (evPs e l)) ∧
  (∀ (y : PV)(l : List PV), evPsK (.p y) (some l) = some (y :: l)) ∧
  (∀ (x : PV)(l : List PV), env0 (x :: l) 0 = .p x) ∧
  (∀ (x : PV)(l : List PV)(t : Nat), env0 (x :: l) (t + 1) = env0 l t) ∧
  (∀ (t : Nat), env0 [] t = .p (.val undef)) ∧
  (∀ (y : PV)(l : List PV), rvsK (some y) (some l) = some (y :: l)) ∧
  (∀ (y : PV), roK (some [y]) = some y) ∧
  (roK (some []) = some (.tup [])) ∧
  (∀ (x y : PV)(l : List PV), roK (some (x :: y :: l)) = some (.tup (x :: y :: l))) ∧
  (∀ (o : Oper)(l : List Oper), dstAt (o :: l) 0 = o.dst) ∧
  (∀ (o : Oper)(l : List Oper)(n : Nat), dstAt (o :: l) (n + 1) = dstAt l n) ∧
  (∀ (P : Program) (G : World → Prop) (T : Tab) (N : Nat) (Y : Hint)(e : Env) (h : Hp) (ρ : Rws) (Q : X → Env → Hp → Rws → Prop), vc P G T N Y .skip e h ρ Q = Q .normal e h ρ) ∧
  (∀ (P : Program) (G : World → Prop) (T : Tab) (N : Nat) (Y : Hint)(e : Env) (h : Hp) (ρ : Rws) (Q : X → Env → Hp → Rws → Prop)(i : Nat)(o : List Oper), vc P G T N Y (.region i o.toArray false) e h ρ Q = vcR P G T N Y (Y.bw.contains i) o.toArray o e h ρ (fun e h ρ => Q .normal e h ρ)) ∧
  (∀ (P : Program) (G : World → Prop) (T : Tab) (N : Nat) (Y : Hint)(e : Env) (h : Hp) (ρ : Rws) (Q : X → Env → Hp → Rws → Prop)(i : Nat)(o : List Oper), vc P G T N Y (.region i o.toArray true) e h ρ Q = enK (enOf Y.en i) P G T N Y i o e h ρ Q) ∧
  (∀ (P : Program) (G : World → Prop) (T : Tab) (N : Nat) (Y : Hint)(e : Env) (h : Hp) (ρ : Rws) (Q : X → Env → Hp → Rws → Prop)(i : Nat)(o : List Oper), tlK none P G T N Y i o e h ρ Q = escK (regEscL Y o ++ regMovL (Y.fz.contains i) o) e h ρ (fun e h ρ => ordK (Y.ex.contains i) (plOf e o.toArray) o.toArray (vcL P G T ρ N o.toArray o e h (fun e h => Q .normal e h ρ)))) ∧
  (∀ (P : Program) (G : World → Prop) (T : Tab) (N : Nat) (Y : Hint)(e : Env) (h : Hp) (ρ : Rws) (Q : X → Env → Hp → Rws → Prop)(i : Nat)(o : List Oper)(Lt : List Nat), tlK (some Lt) P G T N Y i o e h ρ Q = escK (regEscL Y o ++ regMovL (Y.fz.contains i) o) e h ρ (fun e h ρ => ordT Lt o (vcL P G T ρ N o.toArray (selL Lt true 0 o ++ selL Lt false 0 o) e h (fun e h => vcR P G T N Y false o.toArray (tailL o) e h ρ fun e h ρ => Q .normal e h ρ)))) ∧
  (∀ (Lt : List Nat)(b : Bool)(i : Nat), selL Lt b i [] = []) ∧
  (∀ (Lt : List Nat)(b : Bool)(i : Nat)(d : Option Nat)(op : Op)(t : TypeId)(p : String)(af : Array Edge)(g : Option (Nat × Bool))(l : List Oper), selL Lt b i (⟨d, op, t, p, af, g⟩ :: l) = hdK (isStore op) (Lt.contains i == b) ⟨d, op, t, p, af, g⟩ (selL Lt b (i + 1) l)) ∧
  (∀ (c : Bool)(o : Oper)(l : List Oper), hdK true c o l = []) ∧
  (∀ (o : Oper)(l : List Oper), hdK false true o l = o :: l) ∧
  (∀ (o : Oper)(l : List Oper), hdK false false o l = l) ∧
  (∀ (n : Nat), tlOf [] n = none) ∧
  (∀ (i n : Nat)(L : List Nat)(r : List (Nat × List Nat)), tlOf ((i, L) :: r) n = tlK3 (n == i) L r n) ∧
  (∀ (n : Nat)(L : List Nat)(r : List (Nat × List Nat)), tlK3 true L r n = some L) ∧
  (∀ (n : Nat)(L : List Nat)(r : List (Nat × List Nat)), tlK3 false L r n = tlOf r n) ∧
  (∀ (d : Option Nat)(op : Op)(t : TypeId)(p : String)(af : Array Edge)(g : Option (Nat × Bool))(l : List Oper), tailL (⟨d, op, t, p, af, g⟩ :: l) = tlK2 (isStore op) ⟨d, op, t, p, af, g⟩ l) ∧
  (∀ (o : Oper)(l : List Oper), tlK2 true o l = o :: l) ∧
  (∀ (o : Oper)(l : List Oper), tlK2 false o l = tailL l) ∧
  (∀ (t : TypeId)(x : Operand)(i : Nat), isStore (.field t x i) = false) ∧
  (∀ (t : TypeId)(x i : Operand), isStore (.index t x i) = false) ∧
  (∀ (x : Operand)(i : Nat), isStore (.extract x i) = false) ∧
  (∀ (op : UnOp)(t : TypeId)(x : Operand), isStore (.unOp op t x) = false) ∧
  (∀ (t t' : TypeId)(x : Operand), isStore (.convert t t' x) = false) ∧
  (∀ (c : Call), isStore (.call c) = false) ∧
  (∀ (op : BinOp)(t t' : TypeId)(x y : Operand), isStore (.binOp op t x y t') = false) ∧
  (∀ (t : TypeId)(x : Operand)(i : Nat), isStore (.fieldAddr t x i) = false) ∧
  (∀ (x : Operand), isStore (.nilCheck x) = false) ∧
  (∀ (t : TypeId)(x i : Operand), isStore (.indexAddr t x i) = false) ∧
  (∀ (x : Operand), isStore (.assign x) = false) ∧
  (∀ (x : Operand), isStore (.move x) = false) ∧
  (∀ (t : TypeId)(x : Operand), isStore (.load t x) = false) ∧
  (∀ (t : TypeId)(x y : Operand), isStore (.store t x y) = true) ∧
  (∀ (P : Program) (G : World → Prop) (T : Tab) (N : Nat) (Y : Hint)(e : Env) (h : Hp) (ρ : Rws) (Q : X → Env → Hp → Rws → Prop)(a b : Code), vc P G T N Y (.seq a b) e h ρ Q = vc P G T N Y a e h ρ (thenX Q fun e h ρ => vc P G T N Y b e h ρ Q)) ∧
  (∀ (P : Program) (G : World → Prop) (T : Tab) (N : Nat) (Y : Hint)(e : Env) (h : Hp) (ρ : Rws) (Q : X → Env → Hp → Rws → Prop)(c : Operand)(a b : Code), vc P G T N Y (.cond c a b) e h ρ Q = condK (boolOf (evO e c)) (vc P G T N Y a e h ρ Q) (vc P G T N Y b e h ρ Q)) ∧
  (∀ (P : Program) (G : World → Prop) (T : Tab) (N : Nat) (Y : Hint)(e : Env) (h : Hp) (ρ : Rws) (Q : X → Env → Hp → Rws → Prop)(i : Nat)(b : Code), vc P G T N Y (.block i b) e h ρ Q = blkK (Y.ct.contains i) P G T N Y i b e h ρ Q) ∧
  (∀ (P : Program) (G : World → Prop) (T : Tab) (N : Nat) (Y : Hint)(e : Env) (h : Hp) (ρ : Rws) (Q : X → Env → Hp → Rws → Prop)(i : Nat)(b : Code), blkK false P G T N Y i b e h ρ Q = vc P G T N Y b e h ρ (blockX i Q)) ∧
  (∀ (P : Program) (G : World → Prop) (T : Tab) (N : Nat) (Y : Hint)(e : Env) (h : Hp) (ρ : Rws) (Q : X → Env → Hp → Rws → Prop)(i : Nat)(b : Code), blkK true P G T N Y i b e h ρ Q = cutBK P G T N Y i b e h ρ Q ⟨⟩) ∧
  (∀ (C : Env → Hp → Rws → Prop)(Q : X → Env → Hp → Rws → Prop)(e : Env)(h : Hp)(ρ : Rws)(i : Nat), cutX i C Q .normal e h ρ = C e h ρ) ∧
  (∀ (C : Env → Hp → Rws → Prop)(Q : X → Env → Hp → Rws → Prop)(e : Env)(h : Hp)(ρ : Rws)(i : Nat), cutX i C Q .ret e h ρ = Q .ret e h ρ) ∧
  (∀ (C : Env → Hp → Rws → Prop)(Q : X → Env → Hp → Rws → Prop)(e : Env)(h : Hp)(ρ : Rws)(i j : Nat), cutX i C Q (.exit j) e h ρ = if j = i then C e h ρ else Q (.exit j) e h ρ) ∧
  (∀ (P : Program) (G : World → Prop) (T : Tab) (N : Nat) (Y : Hint)(e : Env) (h : Hp) (ρ : Rws) (Q : X → Env → Hp → Rws → Prop)(b : Code), vc P G T N Y (.loop b) e h ρ Q = loopK P G T N Y b e h ρ Q ⟨⟩) ∧
  (∀ (P : Program) (G : World → Prop) (T : Tab) (N : Nat) (Y : Hint)(e : Env) (h : Hp) (ρ : Rws) (Q : X → Env → Hp → Rws → Prop)(i : Nat), vc P G T N Y (.exit i) e h ρ Q = Q (.exit i) e h ρ) ∧
  (∀ (P : Program) (G : World → Prop) (T : Tab) (N : Nat) (Y : Hint)(e : Env) (h : Hp) (ρ : Rws) (Q : X → Env → Hp → Rws → Prop), vc P G T N Y .ret e h ρ Q = Q .ret e h ρ) ∧
  (∀ (Q : X → Env → Hp → Rws → Prop)(k : Env → Hp → Rws → Prop)(e : Env)(h : Hp)(ρ : Rws), thenX Q k .normal e h ρ = k e h ρ) ∧
  (∀ (Q : X → Env → Hp → Rws → Prop)(k : Env → Hp → Rws → Prop)(e : Env)(h : Hp)(ρ : Rws), thenX Q k .ret e h ρ = Q .ret e h ρ) ∧
  (∀ (Q : X → Env → Hp → Rws → Prop)(k : Env → Hp → Rws → Prop)(e : Env)(h : Hp)(ρ : Rws)(i : Nat), thenX Q k (.exit i) e h ρ = Q (.exit i) e h ρ) ∧
  (∀ (Q : X → Env → Hp → Rws → Prop)(e : Env)(h : Hp)(ρ : Rws)(i : Nat), blockX i Q .normal e h ρ = Q .normal e h ρ) ∧
  (∀ (Q : X → Env → Hp → Rws → Prop)(e : Env)(h : Hp)(ρ : Rws)(i : Nat), blockX i Q .ret e h ρ = Q .ret e h ρ) ∧
  (∀ (Q : X → Env → Hp → Rws → Prop)(e : Env)(h : Hp)(ρ : Rws)(i j : Nat), blockX i Q (.exit j) e h ρ = if j = i then Q .normal e h ρ else Q (.exit j) e h ρ) ∧
  (∀ (T : Tab)(rs : List ResultVar)(v : PV)(e : Env)(h : Hp)(ρ : Rws), retX T rs v .ret e h ρ = (resOf T rs e h ρ = some v)) ∧
  (∀ (T : Tab)(rs : List ResultVar)(v : PV)(e : Env)(h : Hp)(ρ : Rws), retX T rs v .normal e h ρ = (resOf T rs e h ρ = some v)) ∧
  (∀ (T : Tab)(rs : List ResultVar)(q : RowE)(v : PV)(e : Env)(h : Hp)(ρ : Rws), retM T rs q v .ret e h ρ = (resOf T rs e h ρ = some v ∧ ρ 0 = some { q with par := true })) ∧
  (∀ (T : Tab)(rs : List ResultVar)(q : RowE)(v : PV)(e : Env)(h : Hp)(ρ : Rws), retM T rs q v .normal e h ρ = (resOf T rs e h ρ = some v ∧ ρ 0 = some { q with par := true })) ∧
  (∀ (P : Program) (G : World → Prop) (T : Tab) (ρ : Rws) (N : Nat)(ops : Array Oper)(e : Env)(h : Hp)(k : Env → Hp → Prop), vcL P G T ρ N ops [] e h k = k e h) ∧
  (∀ (P : Program) (G : World → Prop) (T : Tab) (ρ : Rws) (N : Nat)(ops : Array Oper)(os : List Oper)(e : Env)(h : Hp)(k : Env → Hp → Prop)(d : Option Nat)(op : Op)(t : TypeId)(p : String)(af : Array Edge), vcL P G T ρ N ops (⟨d, op, t, p, af, none⟩ :: os) e h k = resK P G h d (opS T ρ op e h) (fun v h' => vcL P G T ρ N ops os (updo e d v) h' k)) ∧
  (∀ (P : Program) (G : World → Prop) (T : Tab) (ρ : Rws) (N : Nat)(ol : List Oper)(os : List Oper)(e : Env)(h : Hp)(k : Env → Hp → Prop)(d : Option Nat)(op : Op)(t : TypeId)(p : String)(af : Array Edge)(j : Nat), vcL P G T ρ N ol.toArray (⟨d, op, t, p, af, some (j, true)⟩ :: os) e h k = grdK (dstAt ol j) e N (fun x e2 => vcIf x (resK P G h d (opS T ρ op (e2 true) h) fun v h' => vcL P G T ρ N ol.toArray os (updo (e2 true) d v) h' k) (vcL P G T ρ N ol.toArray os (updo (e2 false) d (.p (.val undef))) h k)) (vcL P G T ρ N ol.toArray os (updo e d (.p (.val undef))) h k)) ∧
  (∀ (P : Program) (G : World → Prop) (T : Tab) (ρ : Rws) (N : Nat)(ol : List Oper)(os : List Oper)(e : Env)(h : Hp)(k : Env → Hp → Prop)(d : Option Nat)(op : Op)(t : TypeId)(p : String)(af : Array Edge)(j : Nat), vcL P G T ρ N ol.toArray (⟨d, op, t, p, af, some (j, false)⟩ :: os) e h k = grdK (dstAt ol j) e N (fun x e2 => vcIf x (vcL P G T ρ N ol.toArray os (updo (e2 true) d (.p (.val undef))) h k) (resK P G h d (opS T ρ op (e2 false) h) fun v h' => vcL P G T ρ N ol.toArray os (updo (e2 false) d v) h' k)) (vcL P G T ρ N ol.toArray os (updo e d (.p (.val undef))) h k)) ∧
  (∀ (P : Program) (G : World → Prop) (T : Tab) (N : Nat)(Y : Hint)(b : Bool)(ops : Array Oper)(e : Env)(h : Hp)(ρ : Rws)(k : Env → Hp → Rws → Prop), vcR P G T N Y b ops [] e h ρ k = k e h ρ) ∧
  (∀ (P : Program) (G : World → Prop) (T : Tab) (N : Nat)(Y : Hint)(b : Bool)(ops : Array Oper)(os : List Oper)(e : Env)(h : Hp)(ρ : Rws)(k : Env → Hp → Rws → Prop)(d : Option Nat)(op : Op)(t : TypeId)(p : String)(af : Array Edge), vcR P G T N Y b ops (⟨d, op, t, p, af, none⟩ :: os) e h ρ k = opK P G T Y b d t op e h ρ (fun v e h ρ => vcR P G T N Y b ops os (updo e d v) h ρ k)) ∧
  (∀ (P : Program) (G : World → Prop) (T : Tab) (N : Nat)(Y : Hint)(b : Bool)(ol : List Oper)(os : List Oper)(e : Env)(h : Hp)(ρ : Rws)(k : Env → Hp → Rws → Prop)(d : Option Nat)(op : Op)(t : TypeId)(p : String)(af : Array Edge)(j : Nat), vcR P G T N Y b ol.toArray (⟨d, op, t, p, af, some (j, true)⟩ :: os) e h ρ k = grdK (dstAt ol j) e N (fun x e2 => vcIf x (opK P G T Y b d t op (e2 true) h ρ fun v e h ρ => vcR P G T N Y b ol.toArray os (updo e d v) h ρ k) (vcR P G T N Y b ol.toArray os (updo (e2 false) d (.p (.val undef))) h ρ k)) (vcR P G T N Y b ol.toArray os (updo e d (.p (.val undef))) h ρ k)) ∧
  (∀ (P : Program) (G : World → Prop) (T : Tab) (N : Nat)(Y : Hint)(b : Bool)(ol : List Oper)(os : List Oper)(e : Env)(h : Hp)(ρ : Rws)(k : Env → Hp → Rws → Prop)(d : Option Nat)(op : Op)(t : TypeId)(p : String)(af : Array Edge)(j : Nat), vcR P G T N Y b ol.toArray (⟨d, op, t, p, af, some (j, false)⟩ :: os) e h ρ k = grdK (dstAt ol j) e N (fun x e2 => vcIf x (vcR P G T N Y b ol.toArray os (updo (e2 true) d (.p (.val undef))) h ρ k) (opK P G T Y b d t op (e2 false) h ρ fun v e h ρ => vcR P G T N Y b ol.toArray os (updo e d v) h ρ k)) (vcR P G T N Y b ol.toArray os (updo e d (.p (.val undef))) h ρ k)) ∧
  (∀ (P : Program) (G : World → Prop)(h0 h : Hp)(d : Option Nat)(k : SV → Hp → Prop)(v : SV), resK P G h0 d (.ok v h) k = k v h) ∧
  (∀ (P : Program) (G : World → Prop)(h0 h : Hp)(d : Option Nat)(k : SV → Hp → Prop)(v : SV)(c : Prop), resK P G h0 d (.side c v h) k = (c ∧ k v h)) ∧
  (∀ (P : Program) (G : World → Prop)(h0 h : Hp)(d : Option Nat)(k : SV → Hp → Prop)(b : Bool)(v1 v2 : SV), resK P G h0 d (.br b v1 v2 h) k = vcIf b (k v1 h) (k v2 h)) ∧
  (∀ (P : Program) (G : World → Prop)(h0 : Hp)(d : Option Nat)(k : SV → Hp → Prop)(g : FuncId)(args : List PV), resK P G h0 d (.call g args) k = CallT P G g args (fun y => k (.p y) h0) ⟨⟩) ∧
  (∀ (P : Program) (G : World → Prop)(h0 : Hp)(d : Option Nat)(k : SV → Hp → Prop)(t : TypeId)(cs : List PV), resK P G h0 d (.new t cs) k = freshK (hpAt h0 d) d h0 (fun nm => k (.box nm 0) (upd h0 nm (some (t, cs))))) ∧
  (∀ (P : Program) (G : World → Prop)(h0 h : Hp)(d : Option Nat)(k : SV → Hp → Prop)(c : Prop)[Decidable c](v : Value), resK P G h0 d (binK h (if c then none else some v)) k = (¬ c ∧ k (.p (.val v)) h)) ∧
  (∀ (P : Program) (G : World → Prop)(h0 h : Hp)(d : Option Nat)(k : SV → Hp → Prop)(c : Prop)[Decidable c](v : Value), resK P G h0 d (binK h (if c then some v else none)) k = (c ∧ k (.p (.val v)) h)) ∧
  (∀ (P : Program) (G : World → Prop)(h0 h : Hp)(d : Option Nat)(k : SV → Hp → Prop)(c : Prop)[Decidable c](v : PV), resK P G h0 d (loadK h (if c then some v else none)) k = (c ∧ k (.p v) h)) ∧
  (∀ (P : Program) (G : World → Prop)(h0 h : Hp)(d : Option Nat)(k : SV → Hp → Prop)(l : List Int)(f : Int → PV)(i : Nat), resK P G h0 d (loadK h (Option.map f l[i]?)) k = (i < l.length ∧ k (.p (f (l.getD i 0))) h)) ∧
  (∀ (P : Program) (G : World → Prop)(T : Tab)(Y : Hint)(b : Bool)(d : Option Nat)(ty : TypeId)(e : Env)(h : Hp)(ρ : Rws)(k : SV → Env → Hp → Rws → Prop)(t : TypeId)(x : Operand), opK P G T Y b d ty (.load t x) e h ρ k = resK P G h d (opS T ρ (.load t x) e h) (fun v h' => k v e h' ρ)) ∧
  (∀ (P : Program) (G : World → Prop)(T : Tab)(Y : Hint)(b : Bool)(d : Option Nat)(ty : TypeId)(e : Env)(h : Hp)(ρ : Rws)(k : SV → Env → Hp → Rws → Prop)(t : TypeId)(x : Operand)(f : Nat), opK P G T Y b d ty (.fieldAddr t x f) e h ρ k = resK P G h d (opS T ρ (.fieldAddr t x f) e h) (fun v h' => k v e h' ρ)) ∧
  (∀ (P : Program) (G : World → Prop)(T : Tab)(Y : Hint)(b : Bool)(d : Option Nat)(ty : TypeId)(e : Env)(h : Hp)(ρ : Rws)(k : SV → Env → Hp → Rws → Prop)(x : Operand), opK P G T Y b d ty (.nilCheck x) e h ρ k = resK P G h d (opS T ρ (.nilCheck x) e h) (fun v h' => k v e h' ρ)) ∧
  (∀ (P : Program) (G : World → Prop)(T : Tab)(Y : Hint)(b : Bool)(d : Option Nat)(ty : TypeId)(e : Env)(h : Hp)(ρ : Rws)(k : SV → Env → Hp → Rws → Prop)(t : TypeId)(x : Operand)(f : Nat), opK P G T Y b d ty (.field t x f) e h ρ k = resK P G h d (opS T ρ (.field t x f) e h) (fun v h' => k v e h' ρ)) ∧
  (∀ (P : Program) (G : World → Prop)(T : Tab)(Y : Hint)(b : Bool)(d : Option Nat)(ty : TypeId)(e : Env)(h : Hp)(ρ : Rws)(k : SV → Env → Hp → Rws → Prop)(op : BinOp)(t t' : TypeId)(x y : Operand), opK P G T Y b d ty (.binOp op t x y t') e h ρ k = resK P G h d (opS T ρ (.binOp op t x y t') e h) (fun v h' => k v e h' ρ)) ∧
  (∀ (P : Program) (G : World → Prop)(T : Tab)(Y : Hint)(b : Bool)(d : Option Nat)(ty : TypeId)(e : Env)(h : Hp)(ρ : Rws)(k : SV → Env → Hp → Rws → Prop)(op : UnOp)(t : TypeId)(x : Operand), opK P G T Y b d ty (.unOp op t x) e h ρ k = resK P G h d (opS T ρ (.unOp op t x) e h) (fun v h' => k v e h' ρ)) ∧
  (∀ (P : Program) (G : World → Prop)(T : Tab)(Y : Hint)(b : Bool)(d : Option Nat)(ty : TypeId)(e : Env)(h : Hp)(ρ : Rws)(k : SV → Env → Hp → Rws → Prop)(x : Operand)(i : Nat), opK P G T Y b d ty (.extract x i) e h ρ k = resK P G h d (opS T ρ (.extract x i) e h) (fun v h' => k v e h' ρ)) ∧
  (∀ (P : Program) (G : World → Prop)(T : Tab)(Y : Hint)(b : Bool)(d : Option Nat)(ty : TypeId)(e : Env)(h : Hp)(ρ : Rws)(k : SV → Env → Hp → Rws → Prop)(c x y : Operand), opK P G T Y b d ty (.pick c x y) e h ρ k = resK P G h d (opS T ρ (.pick c x y) e h) (fun v h' => k v e h' ρ)) ∧
  (∀ (P : Program) (G : World → Prop)(T : Tab)(Y : Hint)(b : Bool)(d : Option Nat)(ty : TypeId)(e : Env)(h : Hp)(ρ : Rws)(k : SV → Env → Hp → Rws → Prop)(t : TypeId), opK P G T Y b d ty (.alloc t) e h ρ k = resK P G h d (opS T ρ (.alloc t) e h) (fun v h' => k v e h' ρ)) ∧
  (∀ (P : Program) (G : World → Prop)(T : Tab)(Y : Hint)(b : Bool)(d : Option Nat)(ty : TypeId)(e : Env)(h : Hp)(ρ : Rws)(k : SV → Env → Hp → Rws → Prop)(t : TypeId)(x i : Operand), opK P G T Y b d ty (.index t x i) e h ρ k = resK P G h d (opS T ρ (.index t x i) e h) (fun v h' => k v e h' ρ)) ∧
  (∀ (P : Program) (G : World → Prop)(T : Tab)(Y : Hint)(b : Bool)(d : Option Nat)(ty : TypeId)(e : Env)(h : Hp)(ρ : Rws)(k : SV → Env → Hp → Rws → Prop)(t : TypeId)(x i : Operand), opK P G T Y b d ty (.indexAddr t x i) e h ρ k = resK P G h d (opS T ρ (.indexAddr t x i) e h) (fun v h' => k v e h' ρ)) ∧
  (∀ (P : Program) (G : World → Prop)(T : Tab)(Y : Hint)(b : Bool)(d : Option Nat)(ty : TypeId)(e : Env)(h : Hp)(ρ : Rws)(k : SV → Env → Hp → Rws → Prop)(l : List Operand)(ts : Array TypeId), opK P G T Y b d ty (.call ⟨.builtin .len, l.toArray, ts⟩) e h ρ k = resK P G h d (opS T ρ (.call ⟨.builtin .len, l.toArray, ts⟩) e h) (fun v h' => k v e h' ρ)) ∧
  (∀ (P : Program) (G : World → Prop)(T : Tab)(Y : Hint)(b : Bool)(d : Option Nat)(ty : TypeId)(e : Env)(h : Hp)(ρ : Rws)(k : SV → Env → Hp → Rws → Prop)(l : List Operand)(ts : Array TypeId), opK P G T Y b d ty (.call ⟨.builtin .max, l.toArray, ts⟩) e h ρ k = resK P G h d (opS T ρ (.call ⟨.builtin .max, l.toArray, ts⟩) e h) (fun v h' => k v e h' ρ)) ∧
  (∀ (P : Program) (G : World → Prop)(T : Tab)(Y : Hint)(b : Bool)(d : Option Nat)(ty : TypeId)(e : Env)(h : Hp)(ρ : Rws)(k : SV → Env → Hp → Rws → Prop)(l : List Operand)(ts : Array TypeId), opK P G T Y b d ty (.call ⟨.builtin .min, l.toArray, ts⟩) e h ρ k = resK P G h d (opS T ρ (.call ⟨.builtin .min, l.toArray, ts⟩) e h) (fun v h' => k v e h' ρ)) ∧
  (∀ (P : Program) (G : World → Prop)(T : Tab)(Y : Hint)(b : Bool)(d : Option Nat)(ty : TypeId)(e : Env)(h : Hp)(ρ : Rws)(k : SV → Env → Hp → Rws → Prop)(t : Nat), opK P G T Y b d ty (.move (.tmp t)) e h ρ k = valK (e t) (fun v => k v e h ρ)) ∧
  (∀ (P : Program) (G : World → Prop)(T : Tab)(Y : Hint)(b : Bool)(d : Option Nat)(ty : TypeId)(e : Env)(h : Hp)(ρ : Rws)(k : SV → Env → Hp → Rws → Prop)(t : Nat), opK P G T Y b d ty (.assign (.tmp t)) e h ρ k = valK (e t) (fun v => k v e h ρ)) ∧
  (∀ (P : Program) (G : World → Prop)(T : Tab)(Y : Hint)(b : Bool)(d : Option Nat)(ty : TypeId)(e : Env)(h : Hp)(ρ : Rws)(k : SV → Env → Hp → Rws → Prop)(t : FuncId), opK P G T Y b d ty (.move (.func t)) e h ρ k = k (.p (.clo t [] [])) e h ρ) ∧
  (∀ (P : Program) (G : World → Prop)(T : Tab)(Y : Hint)(b : Bool)(d : Option Nat)(ty : TypeId)(e : Env)(h : Hp)(ρ : Rws)(k : SV → Env → Hp → Rws → Prop)(t : FuncId), opK P G T Y b d ty (.assign (.func t)) e h ρ k = k (.p (.clo t [] [])) e h ρ) ∧
  (∀ (P : Program) (G : World → Prop)(T : Tab)(Y : Hint)(b : Bool)(d : Option Nat)(ty : TypeId)(e : Env)(h : Hp)(ρ : Rws)(k : SV → Env → Hp → Rws → Prop)(v : Value), opK P G T Y b d ty (.move (.const v)) e h ρ k = nilK P G T d (.move (.const v)) (nilB (isNilV v) (Y.em.contains ty)) v ty e h ρ k) ∧
  (∀ (P : Program) (G : World → Prop)(T : Tab)(Y : Hint)(b : Bool)(d : Option Nat)(ty : TypeId)(e : Env)(h : Hp)(ρ : Rws)(k : SV → Env → Hp → Rws → Prop)(v : Value), opK P G T Y b d ty (.assign (.const v)) e h ρ k = nilK P G T d (.assign (.const v)) (nilB (isNilV v) (Y.em.contains ty)) v ty e h ρ k) ∧
  (∀ (P : Program) (G : World → Prop)(T : Tab)(d : Option Nat)(op : Op)(v : Value)(ty : TypeId)(e : Env)(h : Hp)(ρ : Rws)(k : SV → Env → Hp → Rws → Prop), nilK P G T d op false v ty e h ρ k = k (.p (nzC v)) e h ρ) ∧
  (∀ (P : Program) (G : World → Prop)(T : Tab)(d : Option Nat)(op : Op)(v : Value)(ty : TypeId)(e : Env)(h : Hp)(ρ : Rws)(k : SV → Env → Hp → Rws → Prop), nilK P G T d op true v ty e h ρ k = rrK P G T d op e h ρ (rNil T (T ty)) k) ∧
  (∀ (k : IntKind)(n : Int), isNilV (.int k n) = false) ∧
  (∀ (b : Bool), isNilV (.bool b) = false) ∧
  (∀ (s : ByteArray), isNilV (.string s) = false) ∧
  (isNilV (.slice none 0 0) = true) ∧
  (isNilV .nilFunc = false) ∧
  (isNilV .nilIface = false) ∧
  (isNilV (.pointer none) = false) ∧
  (isNilV (.map none) = false) ∧
  (∀ (k : IntKind)(n : Int), nzC (.int k n) = .val (.int k n)) ∧
  (∀ (b : Bool), nzC (.bool b) = .val (.bool b)) ∧
  (∀ (s : ByteArray), nzC (.string s) = .val (.string s)) ∧
  (nzC (.slice none 0 0) = .sl 0 []) ∧
  (nzC .nilFunc = .val .nilFunc) ∧
  (nzC .nilIface = .val .nilIface) ∧
  (nzC (.pointer none) = .val (.pointer none)) ∧
  (nzC (.map none) = .val (.map none)) ∧
  (∀ (e : Env)(v : Value), evO e (.const v) = .p (nzC v)) ∧
  (∀ (e : Env)(f : FuncId), evO e (.func f) = .p (.clo f [] [])) ∧
  (∀ (P : Program) (G : World → Prop)(T : Tab)(Y : Hint)(b : Bool)(d : Option Nat)(ty : TypeId)(e : Env)(h : Hp)(ρ : Rws)(k : SV → Env → Hp → Rws → Prop)(t : TypeId)(x : Operand), opK P G T Y b d ty (.box t x) e h ρ k = escS (evO e x) e h ρ (fun e h ρ => resK P G h d (opS T ρ (.box t x) e h) (fun v h' => k v e h' ρ))) ∧
  (∀ (P : Program) (G : World → Prop)(T : Tab)(Y : Hint)(b : Bool)(d : Option Nat)(ty : TypeId)(e : Env)(h : Hp)(ρ : Rws)(k : SV → Env → Hp → Rws → Prop)(s t : TypeId)(x : Operand), opK P G T Y b d ty (.convert s t x) e h ρ k = escS (evO e x) e h ρ (fun e h ρ => resK P G h d (opS T ρ (.convert s t x) e h) (fun v h' => k v e h' ρ))) ∧
  (∀ (P : Program) (G : World → Prop)(T : Tab)(Y : Hint)(b : Bool)(d : Option Nat)(ty : TypeId)(e : Env)(h : Hp)(ρ : Rws)(k : SV → Env → Hp → Rws → Prop)(t : TypeId)(x y : Operand), opK P G T Y b d ty (.store t x y) e h ρ k = escS (evO e y) e h ρ (fun e h ρ => rrK P G T d (.store t x y) e h ρ (rStore ρ (T t) (evO e x) (evO e y)) k)) ∧
  (∀ (P : Program) (G : World → Prop)(T : Tab)(Y : Hint)(b : Bool)(d : Option Nat)(ty : TypeId)(e : Env)(h : Hp)(ρ : Rws)(k : SV → Env → Hp → Rws → Prop)(t : TypeId)(l : List (Nat × Operand)), opK P G T Y b d ty (.build t l.toArray) e h ρ k = escK (l.map (·.2)) e h ρ (fun e h ρ => resK P G h d (opS T ρ (.build t l.toArray) e h) (fun v h' => k v e h' ρ))) ∧
  (∀ (P : Program) (G : World → Prop)(T : Tab)(Y : Hint)(b : Bool)(d : Option Nat)(ty : TypeId)(e : Env)(h : Hp)(ρ : Rws)(k : SV → Env → Hp → Rws → Prop)(t : TypeId)(n : Nat)(x : Nat × Operand)(l : List (Nat × Operand)), opK P G T Y b d ty (.buildSlice t n (x :: l).toArray) e h ρ k = escK ((x :: l).map (·.2)) e h ρ (fun e h ρ => bsK P G T (Y.fl.contains t) d (.buildSlice t n (x :: l).toArray) t n (x :: l) e h ρ k)) ∧
  (∀ (P : Program) (G : World → Prop)(T : Tab)(d : Option Nat)(op : Op)(t : TypeId)(n : Nat)(l : List (Nat × Operand))(e : Env)(h : Hp)(ρ : Rws)(k : SV → Env → Hp → Rws → Prop), bsK P G T true d op t n l e h ρ k = rrK P G T d op e h ρ (rLit T n (partsP e l) (T t)) k) ∧
  (∀ (P : Program) (G : World → Prop)(T : Tab)(d : Option Nat)(op : Op)(t : TypeId)(n : Nat)(l : List (Nat × Operand))(e : Env)(h : Hp)(ρ : Rws)(k : SV → Env → Hp → Rws → Prop), bsK P G T false d op t n l e h ρ k = resK P G h d (opS T ρ op e h) (fun v h' => k v e h' ρ)) ∧
  (∀ (T : Tab)(n m : Nat)(a : Bool)(el : TypeId)(z : List PV)(q : List EK)(bt : Nat)(ps : List (Nat × PV)), rLit T n (some ps) (some ⟨m, a, .slice el, z, q, bt⟩) = rlK2 T n el ps (T el)) ∧
  (∀ (T : Tab)(n : Nat)(el : TypeId)(ps : List (Nat × PV))(te : TI), rlK2 T n el ps (some te) = rlK3 n te (fillP T (.slice el) (rep n te.zero) ps)) ∧
  (∀ (n : Nat)(te : TI)(cs : List PV), rlK3 n te (some cs) = .lit (.fl n cs) (n * te.size ≤ 16777216 ∧ n * te.size ≠ 0 ∧ te.zero.length = te.size)) ∧
  (∀ (P : Program) (G : World → Prop)(T : Tab)(d : Option Nat)(op : Op)(e : Env)(h : Hp)(ρ : Rws)(k : SV → Env → Hp → Rws → Prop)(y : PV)(c : Prop), rrK P G T d op e h ρ (.lit y c) k = (c ∧ k (.p y) e h ρ)) ∧
  (∀ (P : Program) (G : World → Prop)(T : Tab)(Y : Hint)(b : Bool)(d : Option Nat)(ty : TypeId)(e : Env)(h : Hp)(ρ : Rws)(k : SV → Env → Hp → Rws → Prop)(t : TypeId), opK P G T Y b d ty (.buildSlice t 0 ([] : List (Nat × Operand)).toArray) e h ρ k = rrK P G T d (.buildSlice t 0 #[]) e h ρ (b0R T (Y.em.contains t) (T t)) k) ∧
  (∀ (T : Tab)(t : Option TI), b0R T false t = rNil T t) ∧
  (∀ (T : Tab)(t : Option TI), b0R T true t = rB0 T t) ∧
  (∀ (T : Tab)(m : Nat)(a : Bool)(el : TypeId)(z : List PV)(q : List EK)(bt : Nat), rB0 T (some ⟨m, a, .slice el, z, q, bt⟩) = rB0K (T el)) ∧
  (∀ (te : TI), rB0K (some te) = .lit (.sl 0 []) True) ∧
  (nilB true true = false) ∧
  (nilB true false = true) ∧
  (∀ (b : Bool), nilB false b = false) ∧
  (∀ (P : Program) (G : World → Prop)(T : Tab)(Y : Hint)(b : Bool)(d : Option Nat)(ty : TypeId)(e : Env)(h : Hp)(ρ : Rws)(k : SV → Env → Hp → Rws → Prop)(f : FuncId)(l m : List Operand), opK P G T Y b d ty (.makeFunc (.func f) l.toArray m.toArray) e h ρ k = escK (l ++ m) e h ρ (fun e h ρ => resK P G h d (opFunc h f (evPs e l) (evPs e m)) (fun v h' => k v e h' ρ))) ∧
  (∀ (P : Program) (G : World → Prop)(T : Tab)(Y : Hint)(b : Bool)(d : Option Nat)(ty : TypeId)(e : Env)(h : Hp)(ρ : Rws)(k : SV → Env → Hp → Rws → Prop)(t : TypeId)(x : Operand)(lo hi : Option Operand), opK P G T Y b d ty (.slice t x lo hi none) e h ρ k = escK (slE (Y.sf.contains t) x) e h ρ (fun e h ρ => rrK P G T d (.slice t x lo hi none) e h ρ (rSlice T e ρ (T t) (evO e x) lo hi) k)) ∧
  (∀ (P : Program) (G : World → Prop)(T : Tab)(Y : Hint)(b : Bool)(d : Option Nat)(ty : TypeId)(e : Env)(h : Hp)(ρ : Rws)(k : SV → Env → Hp → Rws → Prop)(t : TypeId)(x y : Operand), opK P G T Y b d ty (.makeSlice t x y) e h ρ k = rrK P G T d (.makeSlice t x y) e h ρ (rMake T (T t) (evO e x) (evO e y)) k) ∧
  (∀ (P : Program) (G : World → Prop)(T : Tab)(Y : Hint)(b : Bool)(d : Option Nat)(ty : TypeId)(e : Env)(h : Hp)(ρ : Rws)(k : SV → Env → Hp → Rws → Prop)(t t' : TypeId)(x y : Operand), opK P G T Y b d ty (.call ⟨.builtin .append, [x, y].toArray, [t, t'].toArray⟩) e h ρ k = escS (evO e y) e h ρ (fun e h ρ => rrK P G T d (.call ⟨.builtin .append, [x, y].toArray, [t, t'].toArray⟩) e h ρ (rApp (Nat.beq t t') T ρ (T t) (isNil x) (evO e x) (evO e y)) k)) ∧
  (∀ (P : Program) (G : World → Prop)(T : Tab)(Y : Hint)(b : Bool)(d : Option Nat)(ty : TypeId)(e : Env)(h : Hp)(ρ : Rws)(k : SV → Env → Hp → Rws → Prop)(f : FuncId)(l : List Operand)(ts : Array TypeId), opK P G T Y b d ty (.call ⟨.value (.func f), l.toArray, ts⟩) e h ρ k = calK P G T (mcHas Y f) (tcHas Y f) (fcHas Y f) b d f l e h ρ k) ∧
  (∀ (P : Program) (G : World → Prop)(T : Tab)(d : Option Nat)(f : FuncId)(l : List Operand)(e : Env)(h : Hp)(ρ : Rws)(k : SV → Env → Hp → Rws → Prop), calK P G T false false false false d f l e h ρ k = escK l e h ρ (fun e h ρ => resK P G h d (opCall (.p (.clo f [] [])) (evPs e l)) (fun v h' => k v e h' ρ))) ∧
  (∀ (P : Program) (G : World → Prop)(T : Tab)(d : Option Nat)(f : FuncId)(l : List Operand)(e : Env)(h : Hp)(ρ : Rws)(k : SV → Env → Hp → Rws → Prop), calK P G T false false false true d f l e h ρ k = borK P G f (evBF ρ e l) e h ρ k) ∧
  (∀ (ρ : Rws)(e : Env)(l : List Operand), evBF ρ e (.const (.slice none 0 0) :: l) = evsFK 0 [] (evB ρ e l)) ∧
  (∀ (n : Nat)(cs ys : List PV), evsFK n cs (some ys) = some (.fl n cs :: ys)) ∧
  (∀ (ρ : Rws)(e : Env)(t : Nat)(l : List Operand), evBF ρ e (.tmp t :: l) = evFT ρ e t (e t) l) ∧
  (∀ (ρ : Rws)(e : Env)(t n : Nat)(cs : List PV)(l : List Operand), evFT ρ e t (.p (.fl n cs)) l = evsFK n cs (evB ρ e l)) ∧
  (∀ (ρ : Rws)(e : Env)(t : Nat)(v : Value)(l : List Operand), evFT ρ e t (.p (.val v)) l = evB ρ e (.tmp t :: l)) ∧
  (∀ (ρ : Rws)(e : Env)(t : Nat)(v : List PV)(l : List Operand), evFT ρ e t (.p (.agg v)) l = evB ρ e (.tmp t :: l)) ∧
  (∀ (ρ : Rws)(e : Env)(t : Nat)(v : List PV)(l : List Operand), evFT ρ e t (.p (.tup v)) l = evB ρ e (.tmp t :: l)) ∧
  (∀ (ρ : Rws)(e : Env)(t : Nat)(n : Nat)(v : List PV)(l : List Operand), evFT ρ e t (.p (.sl n v)) l = evB ρ e (.tmp t :: l)) ∧
  (∀ (ρ : Rws)(e : Env)(t : Nat)(v : List PV)(l : List Operand), evFT ρ e t (.p (.ptr v)) l = evB ρ e (.tmp t :: l)) ∧
  (∀ (ρ : Rws)(e : Env)(t : Nat)(n : Nat)(v w : List PV)(l : List Operand), evFT ρ e t (.p (.clo n v w)) l = evB ρ e (.tmp t :: l)) ∧
  (∀ (ρ : Rws)(e : Env)(t : Nat)(v : List (Int × FuncId))(l : List Operand), evFT ρ e t (.p (.mp v)) l = evB ρ e (.tmp t :: l)) ∧
  (∀ (ρ : Rws)(e : Env)(t nm : Nat)(l : List Operand), evFT ρ e t (.orow nm) l = evB ρ e (.tmp t :: l)) ∧
  (∀ (ρ : Rws)(e : Env)(t : Nat)(l : List Operand), evBF ρ e (.func t :: l) = evB ρ e (.func t :: l)) ∧
  (∀ (ρ : Rws)(e : Env)(t : ByteArray)(l : List Operand), evBF ρ e (.const (.string t) :: l) = evB ρ e (.const (.string t) :: l)) ∧
  (∀ (ρ : Rws)(e : Env)(t : Bool)(l : List Operand), evBF ρ e (.const (.bool t) :: l) = evB ρ e (.const (.bool t) :: l)) ∧
  (∀ (ρ : Rws)(e : Env)(kd : IntKind)(t : Int)(l : List Operand), evBF ρ e (.const (.int kd t) :: l) = evB ρ e (.const (.int kd t) :: l)) ∧
  (∀ (ρ : Rws)(e : Env), evBF ρ e [] = some []) ∧
  (∀ (P : Program) (G : World → Prop)(T : Tab)(d : Option Nat)(f : FuncId)(l : List Operand)(b : Bool)(e : Env)(h : Hp)(ρ : Rws)(k : SV → Env → Hp → Rws → Prop), calK P G T false false true b d f l e h ρ k = escK l e h ρ (fun e h ρ => fcaK P G f d (evPs e l) e h ρ k)) ∧
  (∀ (P : Program) (G : World → Prop)(T : Tab)(d : Option Nat)(f : FuncId)(x : Operand)(l : List Operand)(fc b : Bool)(e : Env)(h : Hp)(ρ : Rws)(k : SV → Env → Hp → Rws → Prop), calK P G T false true fc b d f (x :: l) e h ρ k = escK l e h ρ (fun e h ρ => tcaK P G f (evO e x) (evPs e l) e h ρ k)) ∧
  (∀ (P : Program) (G : World → Prop)(f : FuncId)(nm : Nat)(l : List PV)(e : Env)(h : Hp)(ρ : Rws)(k : SV → Env → Hp → Rws → Prop), tcaK P G f (.orow nm) (some l) e h ρ k = tcbK P G f nm (ρ nm) l e h ρ k) ∧
  (∀ (P : Program) (G : World → Prop)(f : FuncId)(nm : Nat)(q : RowE)(l : List PV)(e : Env)(h : Hp)(ρ : Rws)(k : SV → Env → Hp → Rws → Prop), tcbK P G f nm (some q) l e h ρ k = CallTT P G f q l (fun q' => k (.orow nm) (killE nm e) h (upd ρ nm (some q'))) ⟨⟩) ∧
  (∀ (P : Program) (G : World → Prop)(f : FuncId)(d : Option Nat)(l : List PV)(e : Env)(h : Hp)(ρ : Rws)(k : SV → Env → Hp → Rws → Prop), fcaK P G f d (some l) e h ρ k = CallFT P G f l (fun q => freshR ρ d fun nm => k (.orow nm) e h (upd ρ nm (some q))) ⟨⟩) ∧
  (∀ (ρ : Rws)(d : Option Nat)(f : Nat → Prop), freshR ρ d f = frRK (rwAt ρ d) d ρ f) ∧
  (∀ (t : Nat)(q : RowE)(e : Env)(h : Hp)(ρ : Rws), retR t q .ret e h ρ = (rowOf ρ (e t) = some q)) ∧
  (∀ (t : Nat)(q : RowE)(e : Env)(h : Hp)(ρ : Rws), retR t q .normal e h ρ = (rowOf ρ (e t) = some q)) ∧
  (∀ (ρ : Rws)(nm : Nat), rowOf ρ (.orow nm) = ρ nm) ∧
  (∀ (P : Program) (G : World → Prop)(f : FuncId)(l : List PV)(e : Env)(h : Hp)(ρ : Rws)(k : SV → Env → Hp → Rws → Prop), borK P G f (some l) e h ρ k = CallT P G f l (fun y => k (.p (wkP y)) e h ρ) ⟨⟩) ∧
  (∀ (P : Program) (G : World → Prop)(T : Tab)(d : Option Nat)(f : FuncId)(x : Operand)(l : List Operand)(tc fc b : Bool)(e : Env)(h : Hp)(ρ : Rws)(k : SV → Env → Hp → Rws → Prop), calK P G T true tc fc b d f (x :: l) e h ρ k = escK l e h ρ (fun e h ρ => mcaK P G T f (evO e x) (evPs e l) e h ρ k)) ∧
  (∀ (P : Program) (G : World → Prop)(T : Tab)(f : FuncId)(nm : Nat)(l : List PV)(e : Env)(h : Hp)(ρ : Rws)(k : SV → Env → Hp → Rws → Prop), mcaK P G T f (.orow nm) (some l) e h ρ k = mcbK P G f nm (ρ nm) l e h ρ k) ∧
  (∀ (P : Program) (G : World → Prop)(f : FuncId)(nm : Nat)(q : RowE)(l : List PV)(e : Env)(h : Hp)(ρ : Rws)(k : SV → Env → Hp → Rws → Prop), mcbK P G f nm (some q) l e h ρ k = CallN P G f q l (fun q' y => k (.p y) e h (upd ρ nm (some q'))) ⟨⟩) ∧
  (∀ (P : Program) (G : World → Prop)(T : Tab)(Y : Hint)(b : Bool)(d : Option Nat)(ty : TypeId)(e : Env)(h : Hp)(ρ : Rws)(k : SV → Env → Hp → Rws → Prop)(f : Nat)(l : List Operand)(ts : Array TypeId), opK P G T Y b d ty (.call ⟨.value (.tmp f), l.toArray, ts⟩) e h ρ k = cavK P G T Y b d ty f l ts e h ρ k) ∧
  (∀ (P : Program) (G : World → Prop)(T : Tab)(Y : Hint)(d : Option Nat)(ty : TypeId)(e : Env)(h : Hp)(ρ : Rws)(k : SV → Env → Hp → Rws → Prop)(f : Nat)(l : List Operand)(ts : Array TypeId), cavK P G T Y false d ty f l ts e h ρ k = escK l e h ρ (fun e h ρ => rrK P G T d (.call ⟨.value (.tmp f), l.toArray, ts⟩) e h ρ (rCall Y false e ρ (e f) l) k)) ∧
  (∀ (Y : Hint)(b : Bool)(e : Env)(ρ : Rws)(g : FuncId)(x : PV)(fs cs : List PV)(l : List Operand), rCall Y b e ρ (.p (.clo g (x :: fs) cs)) l = .old) ∧
  (∀ (Y : Hint)(b : Bool)(e : Env)(ρ : Rws)(g : FuncId)(x : PV)(cs : List PV)(l : List Operand), rCall Y b e ρ (.p (.clo g [] (x :: cs))) l = .old) ∧
  (∀ (Y : Hint)(e : Env)(ρ : Rws)(g : FuncId)(l : List Operand), rCall Y false e ρ (.p (.clo g [] [])) l = rClK (mcHas Y g) (tcHas Y g) (fcHas Y g) e ρ g l) ∧
  (∀ (e : Env)(ρ : Rws)(g : FuncId)(l : List Operand), rClK false false false e ρ g l = .old) ∧
  (∀ (P : Program) (G : World → Prop)(T : Tab)(d : Option Nat)(op : Op)(e : Env)(h : Hp)(ρ : Rws)(k : SV → Env → Hp → Rws → Prop), rrK P G T d op e h ρ .old k = resK P G h d (opS T ρ op e h) (fun v h' => k v e h' ρ)) ∧
  (∀ (P : Program) (G : World → Prop)(T : Tab)(d : Option Nat)(op : Op)(e : Env)(h : Hp)(ρ : Rws)(k : SV → Env → Hp → Rws → Prop)(nm : Nat)(q : RowE)(v : SV)(c : Prop), rrK P G T d op e h ρ (.set nm q v c) k = (c ∧ k v (killE nm e) h (upd ρ nm (some q)))) ∧
  (∀ (P : Program) (G : World → Prop)(T : Tab)(d : Option Nat)(op : Op)(e : Env)(h : Hp)(ρ : Rws)(k : SV → Env → Hp → Rws → Prop)(nm : Nat)(q : RowE)(v : SV)(c : Prop), rrK P G T d op e h ρ (.put nm q v c) k = (c ∧ k v e h (upd ρ nm (some q)))) ∧
  (∀ (P : Program) (G : World → Prop)(T : Tab)(d : Option Nat)(op : Op)(e : Env)(h : Hp)(ρ : Rws)(k : SV → Env → Hp → Rws → Prop)(q : RowE)(c : Prop), rrK P G T d op e h ρ (.new q c) k = (c ∧ frRK (rwAt ρ d) d ρ (fun nm => k (.orow nm) e h (upd ρ nm (some q))))) ∧
  (∀ (ρ : Rws)(d : Nat), rwAt ρ (some d) = ρ d) ∧
  (∀ (ρ : Rws)(d : Nat)(f : Nat → Prop), frRK none (some d) ρ f = f d) ∧
  (∀ (ρ : Rws)(d : Nat)(q : RowE)(f : Nat → Prop), frRK (some q) (some d) ρ f = frR2 (ρ (d + 1000)) d ρ f) ∧
  (∀ (ρ : Rws)(d : Nat)(f : Nat → Prop), frR2 none d ρ f = f (d + 1000)) ∧
  (∀ (nm : Nat)(e : Env)(t : Nat), killE nm e t = killS nm (e t)) ∧
  (∀ (nm : Nat)(x : PV), killS nm (.p x) = .p x) ∧
  (∀ (nm a b : Nat), killS nm (.box a b) = .box a b) ∧
  (∀ (nm m : Nat), killS nm (.orow m) = if m = nm then .any else .orow m) ∧
  (∀ (nm m b : Nat), killS nm (.rowp m b) = if m = nm then .any else .rowp m b) ∧
  (∀ (nm : Nat), killS nm .any = .any) ∧
  (∀ (nm n : Nat)(cs : List PV)(e : Env)(t : Nat), frzE nm n cs e t = frzS nm n cs (e t)) ∧
  (∀ (nm n : Nat)(cs : List PV)(x : PV), frzS nm n cs (.p x) = .p x) ∧
  (∀ (nm n : Nat)(cs : List PV)(a b : Nat), frzS nm n cs (.box a b) = .box a b) ∧
  (∀ (nm n : Nat)(cs : List PV)(m : Nat), frzS nm n cs (.orow m) = if m = nm then .p (.sl n cs) else .orow m) ∧
  (∀ (nm n : Nat)(cs : List PV)(m b : Nat), frzS nm n cs (.rowp m b) = if m = nm then .p (.ptr (cs.drop b)) else .rowp m b) ∧
  (∀ (nm n : Nat)(cs : List PV), frzS nm n cs .any = .any) ∧
  (∀ (nm : Nat)(cs : List PV)(e : Env)(t : Nat), frbE nm cs e t = frbS nm cs (e t)) ∧
  (∀ (nm : Nat)(cs : List PV)(x : PV), frbS nm cs (.p x) = .p x) ∧
  (∀ (nm : Nat)(cs : List PV)(a b : Nat), frbS nm cs (.box a b) = if a = nm then .p (.ptr (cs.drop b)) else .box a b) ∧
  (∀ (nm : Nat)(cs : List PV)(m : Nat), frbS nm cs (.orow m) = .orow m) ∧
  (∀ (nm : Nat)(cs : List PV)(m b : Nat), frbS nm cs (.rowp m b) = .rowp m b) ∧
  (∀ (nm : Nat)(cs : List PV), frbS nm cs .any = .any) ∧
  (∀ (e : Env)(h : Hp)(ρ : Rws)(k : Env → Hp → Rws → Prop), escK [] e h ρ k = k e h ρ) ∧
  (∀ (x : Operand)(l : List Operand)(e : Env)(h : Hp)(ρ : Rws)(k : Env → Hp → Rws → Prop), escK (x :: l) e h ρ k = escS (evO e x) e h ρ (fun e h ρ => escK l e h ρ k)) ∧
  (∀ (x : PV)(e : Env)(h : Hp)(ρ : Rws)(k : Env → Hp → Rws → Prop), escS (.p x) e h ρ k = k e h ρ) ∧
  (∀ (e : Env)(h : Hp)(ρ : Rws)(k : Env → Hp → Rws → Prop), escS .any e h ρ k = k e h ρ) ∧
  (∀ (nm : Nat)(e : Env)(h : Hp)(ρ : Rws)(k : Env → Hp → Rws → Prop), escS (.orow nm) e h ρ k = escR nm (ρ nm) e h ρ k) ∧
  (∀ (nm o : Nat)(e : Env)(h : Hp)(ρ : Rws)(k : Env → Hp → Rws → Prop), escS (.rowp nm o) e h ρ k = escR nm (ρ nm) e h ρ k) ∧
  (∀ (nm o : Nat)(e : Env)(h : Hp)(ρ : Rws)(k : Env → Hp → Rws → Prop), escS (.box nm o) e h ρ k = escB nm (h nm) e h ρ k) ∧
  (∀ (nm : Nat)(E : TypeId)(sz n : Nat)(cs : List PV)(e : Env)(h : Hp)(ρ : Rws)(k : Env → Hp → Rws → Prop), escR nm (some ⟨E, sz, n, cs, false⟩) e h ρ k = k (frzE nm n cs e) h (upd ρ nm none)) ∧
  (∀ (nm : Nat)(t : TypeId)(cs : List PV)(e : Env)(h : Hp)(ρ : Rws)(k : Env → Hp → Rws → Prop), escB nm (some (t, cs)) e h ρ k = k (frbE nm cs e) (upd h nm none) ρ) ∧
  (∀ (T : Tab)(m : Nat)(a : Bool)(el : TypeId)(z : List PV)(q : List EK)(bt : Nat), rNil T (some ⟨m, a, .slice el, z, q, bt⟩) = rNlK el (T el)) ∧
  (∀ (el : TypeId)(te : TI), rNlK el (some te) = .new ⟨el, te.size, 0, [], false⟩ True) ∧
  (∀ (T : Tab)(m : Nat)(a : Bool)(k : IntKind)(z : List PV)(q : List EK)(bt : Nat), rNil T (some ⟨m, a, .int k, z, q, bt⟩) = .old) ∧
  (∀ (ρ : Rws)(t : Option TI)(nm o : Nat)(y : SV), rStore ρ t (.box nm o) y = .old) ∧
  (∀ (ρ : Rws)(ti : TI)(nm o : Nat)(z : PV), rStore ρ (some ti) (.rowp nm o) (.p z) = rStK nm o ti (ρ nm) (cellsP z)) ∧
  (∀ (nm off : Nat)(ti : TI)(E : TypeId)(sz n : Nat)(cs zs : List PV)(b : Bool), rStK nm off ti (some ⟨E, sz, n, cs, b⟩) (some zs) = .put nm ⟨E, sz, n, cs.take off ++ zs ++ cs.drop (off + zs.length), b⟩ (.p (.val undef)) (zs.length = ti.size ∧ off + zs.length ≤ cs.length ∧ zs.all leafP = true)) ∧
  (∀ (T : Tab)(m : Nat)(a : Bool)(el : TypeId)(z : List PV)(q : List EK)(bt : Nat)(k k' : IntKind)(n c : Int), rMake T (some ⟨m, a, .slice el, z, q, bt⟩) (.p (.val (.int k n))) (.p (.val (.int k' c))) = rMkK el n c (T el)) ∧
  (∀ (el : TypeId)(n m : Int)(te : TI), rMkK el n m (some te) = .new ⟨el, te.size, n.toNat, rep n.toNat te.zero, false⟩ (0 ≤ n ∧ n ≤ m ∧ (te.bytes : Int) * m ≤ 281474976710656 ∧ m ≤ 9223372036854775807)) ∧
  (∀ (T : Tab)(e : Env)(ρ : Rws)(t : Option TI)(x : PV)(lo hi : Option Operand), rSlice T e ρ t (.p x) lo hi = .old) ∧
  (∀ (T : Tab)(e : Env)(ρ : Rws)(m : Nat)(a : Bool)(el : TypeId)(z : List PV)(q : List EK)(bt : Nat)(nm : Nat)(lo hi : Option Operand), rSlice T e ρ (some ⟨m, a, .slice el, z, q, bt⟩) (.orow nm) lo hi = rSlK nm e lo hi (ρ nm) (T el)) ∧
  (∀ (nm : Nat)(e : Env)(lo hi : Option Operand)(q : RowE)(te : TI), rSlK nm e lo hi (some q) (some te) = rSl2 nm q te (bndP e lo 0) (bndP e hi (q.n : Nat))) ∧
  (∀ (nm : Nat)(E : TypeId)(sz n : Nat)(cs : List PV)(b : Bool)(te : TI)(l m : Int), rSl2 nm ⟨E, sz, n, cs, b⟩ te (some l) (some m) = .set nm ⟨E, sz, m.toNat, cs.take (m.toNat * te.size), b⟩ (.orow nm) (l = 0 ∧ 0 ≤ m ∧ m ≤ (n : Nat) ∧ te.size = sz ∧ b = false)) ∧
  (∀ (e : Env)(d : Int), bndP e none d = some d) ∧
  (∀ (e : Env)(x : Operand)(d : Int), bndP e (some x) d = bndK (evO e x)) ∧
  (∀ (k : IntKind)(n : Int), bndK (.p (.val (.int k n))) = some n) ∧
  (∀ (T : Tab)(ρ : Rws)(t : Option TI)(nl : Bool)(s x : SV), rApp true T ρ t nl s x = rAppN T ρ t nl s x) ∧
  (∀ (T : Tab)(ρ : Rws)(t : Option TI)(s x : SV), rAppN T ρ t false s x = rAppend T ρ t s x) ∧
  (∀ (T : Tab)(ρ : Rws)(m : Nat)(a : Bool)(el : TypeId)(z : List PV)(q : List EK)(bt k : Nat)(s : SV)(news : List PV), rAppN T ρ (some ⟨m, a, .slice el, z, q, bt⟩) true s (.p (.sl (k + 1) news)) = rAppF el 0 (k + 1) [] news (T el)) ∧
  (∀ (T : Tab)(ρ : Rws)(t : Option TI)(s : SV)(news : List PV), rAppN T ρ t true s (.p (.sl 0 news)) = rAppend T ρ t s (.p (.sl 0 news))) ∧
  (∀ (t : Nat), isNil (.tmp t) = false) ∧
  (∀ (v : Value), isNil (.const v) = isNilV v) ∧
  (∀ (T : Tab)(ρ : Rws)(m : Nat)(a : Bool)(el : TypeId)(z : List PV)(q : List EK)(bt nm n : Nat)(news : List PV), rAppend T ρ (some ⟨m, a, .slice el, z, q, bt⟩) (.orow nm) (.p (.sl n news)) = rApK el nm n news (ρ nm) (T el)) ∧
  (∀ (T : Tab)(ρ : Rws)(m : Nat)(a : Bool)(el : TypeId)(z : List PV)(q : List EK)(bt n k : Nat)(cs news : List PV), rAppend T ρ (some ⟨m, a, .slice el, z, q, bt⟩) (.p (.fl n cs)) (.p (.sl k news)) = rAppF el n k cs news (T el)) ∧
  (∀ (el n m : Nat)(cs news : List PV)(te : TI), rAppF el n m cs news (some te) = .new ⟨el, te.size, n + m, cs ++ news, false⟩ (0 < m ∧ cs.length = n * te.size ∧ news.length = m * te.size ∧ cs.all valP = true ∧ news.all valP = true ∧ 0 < te.size ∧ n + m ≤ maxLen ∧ (n + m) * te.bytes ≤ 140737488355328)) ∧
  (∀ (T : Tab)(ρ : Rws)(m : Nat)(a : Bool)(el : TypeId)(z : List PV)(q : List EK)(bt n : Nat)(cs ds : List PV), rAppend T ρ (some ⟨m, a, .slice el, z, q, bt⟩) (.p (.sl n cs)) (.p (.sl 0 ds)) = rApZ n cs (T el)) ∧
  (∀ (n : Nat)(cs : List PV)(te : TI), rApZ n cs (some te) = .lit (.sl n cs) True) ∧
  (∀ (el : TypeId)(nm m : Nat)(news : List PV)(E : TypeId)(sz n : Nat)(cs : List PV)(b : Bool)(te : TI), rApK el nm m news (some ⟨E, sz, n, cs, b⟩) (some te) = .set nm ⟨E, sz, n + m, cs ++ news, b⟩ (.orow nm) (news.length = m * te.size ∧ news.all leafP = true ∧ E = el ∧ sz = te.size ∧ 0 < te.size ∧ n + m ≤ maxLen ∧ (n + m) * te.bytes ≤ 140737488355328 ∧ b = false)) ∧
  (∀ (ρ : Rws)(e : Env), evB ρ e [] = some []) ∧
  (∀ (ρ : Rws)(e : Env)(x : Operand)(l : List Operand), evB ρ e (x :: l) = rvsK (evBP ρ (evO e x)) (evB ρ e l)) ∧
  (∀ (ρ : Rws)(v : Value), evBP ρ (.p (.val v)) = some (.val v)) ∧
  (∀ (ρ : Rws)(v : List PV), evBP ρ (.p (.agg v)) = some (.agg v)) ∧
  (∀ (ρ : Rws)(v : List PV), evBP ρ (.p (.tup v)) = some (.tup v)) ∧
  (∀ (ρ : Rws)(n : Nat)(v : List PV), evBP ρ (.p (.sl n v)) = some (.sl n v)) ∧
  (∀ (ρ : Rws)(v : List PV), evBP ρ (.p (.ptr v)) = some (.ptr v)) ∧
  (∀ (ρ : Rws)(n : Nat)(v w : List PV), evBP ρ (.p (.clo n v w)) = some (.clo n v w)) ∧
  (∀ (ρ : Rws)(v : List (Int × FuncId)), evBP ρ (.p (.mp v)) = some (.mp v)) ∧
  (∀ (ρ : Rws)(n : Nat)(v : List PV), evBP ρ (.p (.fl n v)) = some (.sl n v)) ∧
  (∀ (ρ : Rws), evBP ρ (.p .unk) = some .unk) ∧
  (∀ (ρ : Rws)(nm : Nat), evBP ρ (.orow nm) = evbK (ρ nm)) ∧
  (∀ (E : TypeId)(sz n : Nat)(cs : List PV)(b : Bool), evbK (some ⟨E, sz, n, cs, b⟩) = some (.sl n cs)) ∧
  (∀ (v : Value), wkP (.val v) = .val v) ∧
  (∀ (n : Nat)(cs : List PV), wkP (.sl n cs) = .sl n []) ∧
  (∀ (Y : Hint), regEscL Y [] = []) ∧
  (∀ (Y : Hint)(d : Option Nat)(op : Op)(t : TypeId)(p : String)(af : Array Edge)(g : Option (Nat × Bool))(l : List Oper), regEscL Y (⟨d, op, t, p, af, g⟩ :: l) = escOps Y false op ++ regEscL Y l) ∧
  (∀ (Y : Hint)(t : TypeId)(x : Operand), escOps Y false (.load t x) = []) ∧
  (∀ (Y : Hint)(t : TypeId)(x : Operand)(f : Nat), escOps Y false (.fieldAddr t x f) = []) ∧
  (∀ (Y : Hint)(x : Operand), escOps Y false (.nilCheck x) = []) ∧
  (∀ (Y : Hint)(t : TypeId)(x : Operand)(f : Nat), escOps Y false (.field t x f) = []) ∧
  (∀ (Y : Hint)(op : BinOp)(t t' : TypeId)(x y : Operand), escOps Y false (.binOp op t x y t') = []) ∧
  (∀ (Y : Hint)(op : UnOp)(t : TypeId)(x : Operand), escOps Y false (.unOp op t x) = []) ∧
  (∀ (Y : Hint)(x : Operand)(i : Nat), escOps Y false (.extract x i) = []) ∧
  (∀ (Y : Hint)(x : Operand), escOps Y false (.move x) = []) ∧
  (∀ (Y : Hint)(x : Operand), escOps Y false (.assign x) = []) ∧
  (∀ (Y : Hint)(c x y : Operand), escOps Y false (.pick c x y) = []) ∧
  (∀ (Y : Hint)(t : TypeId), escOps Y false (.alloc t) = []) ∧
  (∀ (Y : Hint)(t : TypeId)(x i : Operand), escOps Y false (.index t x i) = []) ∧
  (∀ (Y : Hint)(t : TypeId)(x i : Operand), escOps Y false (.indexAddr t x i) = []) ∧
  (∀ (Y : Hint)(t : TypeId)(x : Operand)(lo hi mx : Option Operand), escOps Y false (.slice t x lo hi mx) = slE (Y.sf.contains t) x) ∧
  (∀ (Y : Hint)(t : TypeId)(x : Operand), escOps Y false (.box t x) = [x]) ∧
  (∀ (Y : Hint)(t : TypeId)(x y : Operand), escOps Y false (.store t x y) = [y]) ∧
  (∀ (Y : Hint)(s t : TypeId)(x : Operand), escOps Y false (.convert s t x) = [x]) ∧
  (∀ (Y : Hint)(t : TypeId)(l : List (Nat × Operand)), escOps Y false (.build t l.toArray) = l.map (·.2)) ∧
  (∀ (Y : Hint)(t : TypeId)(n : Nat)(l : List (Nat × Operand)), escOps Y false (.buildSlice t n l.toArray) = l.map (·.2)) ∧
  (∀ (Y : Hint)(f : Fn)(l m : List Operand), escOps Y false (.makeFunc f l.toArray m.toArray) = l ++ m) ∧
  (∀ (Y : Hint)(a ts), escOps Y false (.call ⟨.builtin .len, a, ts⟩) = []) ∧
  (∀ (Y : Hint)(t : TypeId)(x y : Operand), escOps Y false (.makeSlice t x y) = []) ∧
  (∀ (Y : Hint)(x y : Operand)(ts), escOps Y false (.call ⟨.builtin .append, #[x, y], ts⟩) = [y]) ∧
  (∀ (Y : Hint)(a ts), escOps Y false (.call ⟨.builtin .max, a, ts⟩) = []) ∧
  (∀ (Y : Hint)(a ts), escOps Y false (.call ⟨.builtin .min, a, ts⟩) = []) ∧
  (∀ (Y : Hint)(g : FuncId)(l : List Operand)(ts : Array TypeId), escOps Y false (.call ⟨.value (.func g), l.toArray, ts⟩) = escC (mcHas Y g || tcHas Y g) l) ∧
  (∀ (l : List Operand), escC false l = l) ∧
  (∀ (l : List Operand), escC true l = l.drop 1) ∧
  (∀ (Y : Hint)(g : Nat)(l : List Operand)(ts : Array TypeId), escOps Y false (.call ⟨.value (.tmp g), l.toArray, ts⟩) = l) ∧
  (∀ (ex bw fz : List Nat)(tl : List (Nat × List Nat))(mc tc fc : List FuncId)(ct : List Nat)(sf fl em : List TypeId)(en : List (Nat × ET))(g : FuncId), mcHas ⟨ex, mc, bw, fz, tl, tc, fc, ct, sf, fl, em, en⟩ g = mc.contains g) ∧
  (∀ (ex bw fz : List Nat)(tl : List (Nat × List Nat))(mc tc fc : List FuncId)(ct : List Nat)(sf fl em : List TypeId)(en : List (Nat × ET))(g : FuncId), tcHas ⟨ex, mc, bw, fz, tl, tc, fc, ct, sf, fl, em, en⟩ g = tc.contains g) ∧
  (∀ (ex bw fz : List Nat)(tl : List (Nat × List Nat))(mc tc fc : List FuncId)(ct : List Nat)(sf fl em : List TypeId)(en : List (Nat × ET))(g : FuncId), fcHas ⟨ex, mc, bw, fz, tl, tc, fc, ct, sf, fl, em, en⟩ g = fc.contains g) ∧
  (∀ (h : Hp)(a : Nat), sv (.orow a) h = .ok (.orow a) h) ∧
  (∀ (h : Hp)(a b : Nat), sv (.rowp a b) h = .ok (.rowp a b) h) ∧
  (∀ (h : Hp), sv .any h = .ok .any h) ∧
  (∀ (T : Tab)(ρ : Rws)(e : Env)(h : Hp)(t : TypeId)(x : Operand), opS T ρ (.load t x) e h = opLoad ρ h (evO e x) (T t)) ∧
  (∀ (ρ : Rws)(h : Hp)(nm off : Nat)(ti : TI), opLoad ρ h (.box nm off) (some ti) = loadK2 h ti off (h nm)) ∧
  (∀ (ρ : Rws)(h : Hp)(nm off : Nat)(ti : TI), opLoad ρ h (.rowp nm off) (some ti) = loadK3 h ti off (ρ nm)) ∧
  (∀ (h : Hp)(ti : TI)(off : Nat)(E : TypeId)(sz n : Nat)(cs : List PV)(b : Bool), loadK3 h ti off (some ⟨E, sz, n, cs, b⟩) = loadK h (loadP ti (cs.drop off))) ∧
  (∀ (ρ : Rws)(h : Hp)(cs : List PV)(ti : TI), opLoad ρ h (.p (.ptr cs)) (some ti) = loadK h (loadP ti cs)) ∧
  (∀ (n : Nat)(d : TD)(z : List PV)(q : List EK)(bt : Nat)(l : List PV)(i : Nat), loadP ⟨n, false, d, z, q, bt⟩ (l.drop i) = l[i]?) ∧
  (∀ (n : Nat)(d : TD)(z : List PV)(q : List EK)(bt : Nat)(f : Int → PV)(l : List Int), loadP ⟨n, false, d, z, q, bt⟩ (l.map f) = (l[0]?).map f) ∧
  (∀ (T : Tab)(ρ : Rws)(e : Env)(h : Hp)(t : TypeId)(x : Operand)(f : Nat), opS T ρ (.fieldAddr t x f) e h = opFieldAddr h (opFO T (T t) f) (evO e x)) ∧
  (∀ (T : Tab)(ρ : Rws)(e : Env)(h : Hp)(x : Operand), opS T ρ (.nilCheck x) e h = opNilC h (evO e x)) ∧
  (∀ (h : Hp)(cs : List PV), opNilC h (.p (.ptr cs)) = .ok (.p (.ptr cs)) h) ∧
  (∀ (h : Hp)(a b : Nat), opNilC h (.box a b) = .ok (.box a b) h) ∧
  (∀ (h : Hp)(a b : Nat), opNilC h (.rowp a b) = .ok (.rowp a b) h) ∧
  (∀ (h : Hp)(off o nm : Nat)(tf : TI), opFieldAddr h (some (off, tf)) (.box nm o) = .side (tf.size ≠ 0) (.box nm (o + off)) h) ∧
  (∀ (h : Hp)(off o nm : Nat)(tf : TI), opFieldAddr h (some (off, tf)) (.rowp nm o) = .side (tf.size ≠ 0) (.rowp nm (o + off)) h) ∧
  (∀ (h : Hp)(off : Nat)(cs : List PV)(tf : TI), opFieldAddr h (some (off, tf)) (.p (.ptr cs)) = .side (tf.size ≠ 0) (.p (.ptr (cs.drop off))) h) ∧
  (∀ (T : Tab)(ρ : Rws)(e : Env)(h : Hp)(s d : TypeId)(x : Operand), opS T ρ (.convert s d x) e h = opConvert T h (T s) (T d) (evO e x)) ∧
  (∀ (T : Tab)(h : Hp)(ts : TI)(n : Nat)(a : Bool)(kk k : IntKind)(z : List PV)(q : List EK)(bt : Nat)(m : Int), opConvert T h (some ts) (some ⟨n, a, .int kk, z, q, bt⟩) (.p (.val (.int k m))) = .ok (.p (.val (.int kk (kk.wrap m)))) h) ∧
  (∀ (T : Tab)(h : Hp)(n n' : Nat)(a a' : Bool)(z z' : List PV)(q q' : List EK)(bt bt' : Nat)(y : ByteArray), opConvert T h (some ⟨n, a, .string, z, q, bt⟩) (some ⟨n', a', .string, z', q', bt'⟩) (.p (.val (.string y))) = .ok (.p (.val (.string y))) h) ∧
  (∀ (T : Tab)(h : Hp)(n n' : Nat)(a a' : Bool)(el : TypeId)(z z' : List PV)(q q' : List EK)(bt bt' : Nat)(m : Nat)(cs : List PV), opConvert T h (some ⟨n, a, .slice el, z, q, bt⟩) (some ⟨n', a', .string, z', q', bt'⟩) (.p (.sl m cs)) = cvbK h m cs.length (T el) (bytesP cs)) ∧
  (∀ (h : Hp)(m n : Nat)(te : TI)(l : List UInt8), cvbK h m n (some te) (some l) = .side (te.d = .int .u8 ∧ te.size = 1 ∧ n = m) (.p (.val (.string ⟨l.toArray⟩))) h) ∧
  (bytesP [] = some []) ∧
  (∀ (n : Int)(l : List PV), bytesP (.val (.int .u8 n) :: l) = bypK n (bytesP l)) ∧
  (∀ (n : Int)(l : List UInt8), bypK n (some l) = some (UInt8.ofNat n.toNat :: l)) ∧
  (∀ (T : Tab)(ρ : Rws)(e : Env)(h : Hp)(t : TypeId)(n : Nat)(ps : List (Nat × Operand)), opS T ρ (.buildSlice t n ps.toArray) e h = opBuildSlice T h (T t) n (partsP e ps)) ∧
  (∀ (T : Tab)(ρ : Rws)(e : Env)(h : Hp)(t : TypeId)(x i : Operand), opS T ρ (.indexAddr t x i) e h = opIndexAddr T ρ h (T t) (evO e i) (evO e x)) ∧
  (∀ (T : Tab)(ρ : Rws)(h : Hp)(m : Nat)(a : Bool)(el : TypeId)(z : List PV)(q : List EK)(bt : Nat)(k : IntKind)(n : Int)(x : SV), opIndexAddr T ρ h (some ⟨m, a, .slice el, z, q, bt⟩) (.p (.val (.int k n))) x = iaK ρ h n (T el) x) ∧
  (∀ (ρ : Rws)(h : Hp)(n : Int)(te : TI)(len : Nat)(cs : List PV), iaK ρ h n (some te) (.p (.sl len cs)) = .side (0 ≤ n ∧ n.toNat < len ∧ n.toNat * te.size < cs.length) (.p (.ptr (cs.drop (n.toNat * te.size)))) h) ∧
  (∀ (ρ : Rws)(h : Hp)(n : Int)(te : TI)(nm : Nat), iaK ρ h n (some te) (.orow nm) = iaK3 h n te nm (ρ nm)) ∧
  (∀ (h : Hp)(n : Int)(te : TI)(nm : Nat)(E : TypeId)(sz m : Nat)(cs : List PV)(b : Bool), iaK3 h n te nm (some ⟨E, sz, m, cs, b⟩) = .side (0 ≤ n ∧ n.toNat < m) (.rowp nm (n.toNat * te.size)) h) ∧
  (∀ (T : Tab)(ρ : Rws)(h : Hp)(m len : Nat)(a : Bool)(el : TypeId)(z : List PV)(q : List EK)(bt : Nat)(k : IntKind)(n : Int)(x : SV), opIndexAddr T ρ h (some ⟨m, a, .array len el, z, q, bt⟩) (.p (.val (.int k n))) x = iaK2 h n len (T el) x) ∧
  (∀ (h : Hp)(n : Int)(te : TI)(len nm o : Nat), iaK2 h n len (some te) (.box nm o) = .side (0 ≤ n ∧ n.toNat < len) (.box nm (o + n.toNat * te.size)) h) ∧
  (∀ (h : Hp)(n : Int)(te : TI)(len nm o : Nat), iaK2 h n len (some te) (.rowp nm o) = .side (0 ≤ n ∧ n.toNat < len) (.rowp nm (o + n.toNat * te.size)) h) ∧
  (∀ (h : Hp)(n : Int)(te : TI)(len : Nat)(cs : List PV), iaK2 h n len (some te) (.p (.ptr cs)) = .side (0 ≤ n ∧ n.toNat < len) (.p (.ptr (cs.drop (n.toNat * te.size)))) h) ∧
  (∀ (T : Tab)(ρ : Rws)(e : Env)(h : Hp)(t : TypeId)(x : Operand)(lo hi : Option Operand), opS T ρ (.slice t x lo hi none) e h = opSlice T e h (T t) (evO e x) lo hi) ∧
  (∀ (T : Tab)(e : Env)(h : Hp)(m : Nat)(a : Bool)(z : List PV)(q : List EK)(bt : Nat)(s : ByteArray)(lo hi : Option Operand), opSlice T e h (some ⟨m, a, .string, z, q, bt⟩) (.p (.val (.string s))) lo hi = slcK h (bndP e lo 0) (bndP e hi (s.size : Nat)) s.size (fun l m => .p (.val (.string (s.extract l.toNat m.toNat))))) ∧
  (∀ (h : Hp)(l m : Int)(n : Nat)(f : Int → Int → SV), slcK h (some l) (some m) n f = .side (0 ≤ l ∧ l ≤ m ∧ m ≤ (n : Nat)) (f l m) h) ∧
  (∀ (T : Tab)(e : Env)(h : Hp)(m : Nat)(a : Bool)(el : TypeId)(z : List PV)(q : List EK)(bt : Nat)(n : Nat)(cs : List PV)(lo hi : Option Operand), opSlice T e h (some ⟨m, a, .slice el, z, q, bt⟩) (.p (.sl n cs)) lo hi = slsK e h n cs lo hi (T el)) ∧
  (∀ (T : Tab)(e : Env)(h : Hp)(m : Nat)(a : Bool)(el : TypeId)(z : List PV)(q : List EK)(bt : Nat)(n : Nat)(cs : List PV)(lo hi : Option Operand), opSlice T e h (some ⟨m, a, .array n el, z, q, bt⟩) (.p (.ptr cs)) lo hi = slsK e h n cs lo hi (T el)) ∧
  (∀ (e : Env)(h : Hp)(n : Nat)(cs : List PV)(lo hi : Option Operand)(te : TI), slsK e h n cs lo hi (some te) = slcK h (bndP e lo 0) (bndP e hi (n : Nat)) n (fun l m => .p (.sl (m.toNat - l.toNat) ((cs.take (m.toNat * te.size)).drop (l.toNat * te.size))))) ∧
  (∀ (h : Hp)(f : FuncId)(l m : List PV), opFunc h f (some l) (some m) = .ok (.p (.clo f l m)) h) ∧
  (∀ (T : Tab)(ρ : Rws)(e : Env)(h : Hp)(f : FuncId)(l m : List Operand), opS T ρ (.makeFunc (.func f) l.toArray m.toArray) e h = opFunc h f (evPs e l) (evPs e m)) ∧
  (∀ (T : Tab)(ρ : Rws)(e : Env)(h : Hp)(x : Operand)(t : TypeId)(l : List TypeId), opS T ρ (.call ⟨.builtin .len, [x].toArray, (t :: l).toArray⟩) e h = opLen ρ h (T t) (evO e x)) ∧
  (∀ (ρ : Rws)(h : Hp)(m : Nat)(a : Bool)(z : List PV)(q : List EK)(bt : Nat)(s : ByteArray), opLen ρ h (some ⟨m, a, .string, z, q, bt⟩) (.p (.val (.string s))) = .ok (.p (.val (.int .i64 (s.size : Nat)))) h) ∧
  (∀ (ρ : Rws)(h : Hp)(m : Nat)(a : Bool)(el : TypeId)(z : List PV)(q : List EK)(bt : Nat)(n : Nat)(cs : List PV), opLen ρ h (some ⟨m, a, .slice el, z, q, bt⟩) (.p (.sl n cs)) = .ok (.p (.val (.int .i64 (n : Nat)))) h) ∧
  (∀ (ρ : Rws)(h : Hp)(m : Nat)(a : Bool)(el : TypeId)(z : List PV)(q : List EK)(bt : Nat)(nm : Nat), opLen ρ h (some ⟨m, a, .slice el, z, q, bt⟩) (.orow nm) = lenK h (ρ nm)) ∧
  (∀ (h : Hp)(E : TypeId)(sz n : Nat)(cs : List PV)(b : Bool), lenK h (some ⟨E, sz, n, cs, b⟩) = .ok (.p (.val (.int .i64 (n : Nat)))) h) ∧
  (∀ (T : Tab)(ρ : Rws)(e : Env)(h : Hp)(x y : Operand)(ts : Array TypeId), opS T ρ (.call ⟨.builtin .max, [x, y].toArray, ts⟩) e h = opMax h (evO e x) (evO e y)) ∧
  (∀ (T : Tab)(ρ : Rws)(e : Env)(h : Hp)(x y : Operand)(ts : Array TypeId), opS T ρ (.call ⟨.builtin .min, [x, y].toArray, ts⟩) e h = opMin h (evO e x) (evO e y)) ∧
  (∀ (T : Tab)(ρ : Rws)(e : Env)(h : Hp)(f : Operand)(l : List Operand)(ts : Array TypeId), opS T ρ (.call ⟨.value f, l.toArray, ts⟩) e h = opCall (evO e f) (evPs e l)) ∧
  (∀ (g : FuncId)(fs l cs : List PV), opCall (.p (.clo g fs cs)) (some l) = .call g (fs ++ l ++ cs)) ∧
  (∀ (f : FuncId)(l m : List PV), cellsP (.clo f l m) = some [.clo f l m]) ∧
  (∀ (l : List PV), cellsP (.ptr l) = some [.ptr l]) ∧
  (cellsP (.val .nilFunc) = some [.val .nilFunc]) ∧
  (∀ (f : FuncId)(l m : List PV), leafP (.clo f l m) = true) ∧
  (∀ (l : List PV), leafP (.ptr l) = true) ∧
  (leafP (.val .nilFunc) = true) ∧
  (∀ (args : List PV), env0M args 0 = .orow 0) ∧
  (∀ (args : List PV)(t : Nat), env0M args (t + 1) = env0 args t) ∧
  (∀ (q : RowE), rw0 q 0 = some { q with par := true }) ∧
  (∀ (q : RowE)(n : Nat), rw0 q (n + 1) = none) ∧
  (∀ (T : Tab)(e : Env)(h : Hp)(ρ : Rws)(t : Nat), resVar T e h ρ (.tmp t) = resTmp ρ (e t)) ∧
  (∀ (ρ : Rws)(y : PV), resTmp ρ (.p y) = some y) ∧
  (∀ (ρ : Rws)(nm : Nat), resTmp ρ (.orow nm) = rtK (ρ nm)) ∧
  (∀ (E : TypeId)(sz n : Nat)(cs : List PV), rtK (some ⟨E, sz, n, cs, false⟩) = some (.sl n cs)) ∧
  (∀ (T : Tab)(e : Env)(h : Hp)(ρ : Rws)(a : Nat)(t : TypeId), resVar T e h ρ (.cell a t) = rvK2 ρ h (T t) (e a)) ∧
  (∀ (ρ : Rws)(h : Hp)(ti : TI)(nm off : Nat), rvK2 ρ h (some ti) (.box nm off) = rvK3 ti off (h nm)) ∧
  (∀ (ρ : Rws)(h : Hp)(ti : TI)(cs : List PV), rvK2 ρ h (some ti) (.p (.ptr cs)) = loadP ti cs) ∧
  (∀ (ti : TI)(off : Nat)(t : TypeId)(cs : List PV), rvK3 ti off (some (t, cs)) = loadP ti (cs.drop off)) ∧
  (∀ (T : Tab)(e : Env)(h : Hp)(ρ : Rws), resVars T e h ρ [] = some []) ∧
  (∀ (T : Tab)(e : Env)(h : Hp)(ρ : Rws)(x : ResultVar)(l : List ResultVar), resVars T e h ρ (x :: l) = rvsK (resVar T e h ρ x) (resVars T e h ρ l)) ∧
  (∀ (T : Tab)(rs : List ResultVar)(e : Env)(h : Hp)(ρ : Rws), resOf T rs e h ρ = roK (resVars T e h ρ rs)) ∧
  (∀ (c : PV)(l : List PV), (c :: l)[0]? = some c) ∧
  (∀ (c : PV)(l : List PV)(n : Nat), (c :: l)[n + 1]? = l[n]?) ∧
  (∀ (α β : Type)(f : α → β)(x : α)(l : List α), List.map f (x :: l) = f x :: List.map f l) ∧
  (∀ (α β : Type)(f : α → β), List.map f ([] : List α) = []) ∧
  (∀ (α : Type)(x : α)(l : List α)(n : Nat), List.take (n + 1) (x :: l) = x :: List.take n l) ∧
  (∀ (α : Type)(l : List α), List.take 0 l = []) ∧
  (∀ (α : Type)(x : α)(l : List α)(n : Nat), List.drop (n + 1) (x :: l) = List.drop n l) ∧
  (∀ (α : Type)(l : List α), List.drop 0 l = l) ∧
  (∀ (α : Type)(x : α)(l m : List α), (x :: l) ++ m = x :: (l ++ m)) ∧
  (∀ (α : Type)(m : List α), [] ++ m = m) ∧
  (∀ (α : Type)(m : List α), m ++ [] = m) ∧
  (∀ (α : Type)(x : α)(l : List α), (x :: l).length = l.length + 1) ∧
  (∀ (α : Type), ([] : List α).length = 0) ∧
  (∀ (α : Type)(p : α → Bool)(x : α)(l : List α), (x :: l).all p = (p x && l.all p)) ∧
  (∀ (α : Type)(p : α → Bool), ([] : List α).all p = true) ∧
  (∀ (α : Type)(x : α), (some x).isSome = true) ∧
  (∀ (α β : Type)(f : α → β)(x : α), Option.map f (some x) = some (f x)) ∧
  (∀ (p : Prop), (p ∧ True) = p) ∧
  (∀ (p : Prop), (True ∧ p) = p) ∧
  (∀ (b : Bool), (b && true) = b) ∧
  (∀ (b : Bool), (true && b) = b) ∧
  (∀ (b : Bool), (b && false) = false) ∧
  (∀ (b : Bool), (false && b) = false) ∧
  ((!true) = false) ∧
  ((!false) = true) ∧
  ((true = true) = True) ∧
  ((false = true) = False) ∧
  (∀ (α : Type)(x : α), (x = x) = True) ∧
  (∀ (n : Nat), ((n : Int).toNat) = n) ∧
  (∀ (f : Int → PV)(l : List Int)(i : Nat), (l.map f)[i]? = (l[i]?).map f) ∧
  (∀ (f : Int → PV)(l : List Int)(i : Nat), (l.map f).take i = (l.take i).map f) ∧
  (∀ (f : Int → PV)(l : List Int)(i : Nat), (l.map f).drop i = (l.drop i).map f) ∧
  (∀ (f : Int → PV)(l : List Int), (l.map f).length = l.length) ∧
  (∀ (f : Int → PV)(l m : List Int), l.map f ++ m.map f = (l ++ m).map f) ∧
  (∀ (n : Nat), n * 1 = n) ∧
  ((0 : Int).toNat = 0) ∧
  (∀ (n : Nat), n - 0 = n) ∧
  (∀ (t : Nat), envL [] t = .any) ∧
  (∀ (t : Nat), hpL [] t = none) ∧
  (∀ (t : Nat), rwL [] t = none) ∧
  (∀ (t a : Nat)(s : SV)(l : Ls), envL ((a, s) :: l) t = if t = a then s else envL l t) ∧
  (∀ (t a : Nat)(s : TypeId × List PV)(l : Lh), hpL ((a, s) :: l) t = if t = a then some s else hpL l t) ∧
  (∀ (t a : Nat)(s : RowE)(l : Lr), rwL ((a, s) :: l) t = if t = a then some s else rwL l t) ∧
  (∀ (l : List Int)(i : Nat), (l.drop i).getD 0 0 = l.getD i 0) ∧
  (∀ (l : List Int)(i : Nat), (0 < (l.drop i).length) = (i < l.length)) ∧
  (∀ (n : Nat), ([] : List Nat).contains n = false) ∧
  (∀ (n a : Nat)(l : List Nat), (a :: l).contains n = (n == a || l.contains n)) ∧
  (∀ (n : Nat), (n == n) = true) ∧
  (∀ (t : Nat), Nat.beq t t = true) ∧
  (∀ (b : Bool), (b || true) = true) ∧
  (∀ (b : Bool), (true || b) = true) ∧
  (∀ (b : Bool), (b || false) = b) ∧
  (∀ (b : Bool), (false || b) = b) ∧
  (∀ (x : PV)(k : SV → Prop), valK (.p x) k = k (.p x)) ∧
  (∀ (a b : Nat)(k : SV → Prop), valK (.box a b) k = k (.box a b)) ∧
  (∀ (a : Nat)(k : SV → Prop), valK (.orow a) k = k (.orow a)) ∧
  (∀ (a b : Nat)(k : SV → Prop), valK (.rowp a b) k = k (.rowp a b)) ∧
  (∀ (k : SV → Prop), valK .any k = k .any) ∧
  (∀ (l : List Oper), regMovL false l = []) ∧
  (regMovL true [] = []) ∧
  (∀ (d : Option Nat)(op : Op)(t : TypeId)(p : String)(af : Array Edge)(g : Option (Nat × Bool))(l : List Oper), regMovL true (⟨d, op, t, p, af, g⟩ :: l) = moveOp op ++ regMovL true l) ∧
  (∀ (x : Operand), moveOp (.move x) = [x]) ∧
  (∀ (x : Operand), moveOp (.assign x) = []) ∧
  (∀ (t : TypeId)(x : Operand), moveOp (.load t x) = []) ∧
  (∀ (t : TypeId)(x : Operand)(f : Nat), moveOp (.fieldAddr t x f) = []) ∧
  (∀ (x : Operand), moveOp (.nilCheck x) = []) ∧
  (∀ (op : BinOp)(t t' : TypeId)(x y : Operand), moveOp (.binOp op t x y t') = []) ∧
  (∀ (x : Operand)(i : Nat), moveOp (.extract x i) = []) ∧
  (∀ (c x y : Operand), moveOp (.pick c x y) = []) ∧
  (∀ (t : TypeId)(x i : Operand), moveOp (.indexAddr t x i) = []) ∧
  (∀ (t : TypeId)(x : Operand)(lo hi mx : Option Operand), moveOp (.slice t x lo hi mx) = []) ∧
  (∀ (s t : TypeId)(x : Operand), moveOp (.convert s t x) = []) ∧
  (∀ (c : Call), moveOp (.call c) = []) ∧
  (∀ (e : Env)(N d : Nat)(K : Bool → (Bool → Env) → Prop)(S : Prop), grdK2 none true d e N K S = (d < N ∧ S)) ∧
  (boolOf (.p (.val undef)) = none) ∧
  (skipB (.p (.val undef)) = true) ∧
  (∀ (b : Bool), skipB (.p (.val (.bool b))) = false) ∧
  (∀ (l : List UInt8), (⟨l.toArray⟩ : ByteArray).size = l.length) ∧
  (∀ (l : List UInt8)(i : Nat), (⟨l.toArray⟩ : ByteArray)[i]? = l[i]?) ∧
  (∀ (l m : List UInt8), (⟨l.toArray⟩ : ByteArray) ++ ⟨m.toArray⟩ = ⟨(l ++ m).toArray⟩) ∧
  (∀ (l : List UInt8), (⟨l.toArray⟩ : ByteArray).toList = l) ∧
  (∀ (l : List UInt8)(a b : Nat), (⟨l.toArray⟩ : ByteArray).extract a b = ⟨((l.drop a).take (b - a)).toArray⟩) ∧
  ((false == true) = false) ∧
  ((true == false) = false) ∧
  ((true == true) = true) ∧
  ((false == false) = true) ∧
  (∀ (T : Tab)(ρ : Rws)(e : Env)(h : Hp)(t : TypeId)(x i : Operand)(ok : Bool), opS T ρ (.lookup t x i ok) e h = opLookup T h (T t) (evO e x) (evO e i) ok) ∧
  (∀ (T : Tab)(h : Hp)(m : Nat)(a : Bool)(kt : TypeId)(z : List PV)(q : List EK)(bt : Nat)(l : List (Int × FuncId))(n : Int), opLookup T h (some ⟨m, a, .map kt, z, q, bt⟩) (.p (.mp l)) (.p (.val (.int .u8 n))) false = lkK h (T kt) (mpGet l n)) ∧
  (∀ (h : Hp)(te : TI)(g : FuncId), lkK h (some te) (some g) = .side (te.d = .int .u8) (.p (.clo g [] [])) h) ∧
  (∀ (x k : Int)(g : FuncId)(l : List (Int × FuncId)), mpGet ((k, g) :: l) x = if x = k then some g else mpGet l x) ∧
  (∀ (t : TypeId)(x i : Operand)(ok : Bool), isStore (.lookup t x i ok) = false) ∧
  (∀ (P : Program) (G : World → Prop)(T : Tab)(Y : Hint)(b : Bool)(d : Option Nat)(ty : TypeId)(e : Env)(h : Hp)(ρ : Rws)(k : SV → Env → Hp → Rws → Prop)(t : TypeId)(x i : Operand)(ok : Bool), opK P G T Y b d ty (.lookup t x i ok) e h ρ k = resK P G h d (opS T ρ (.lookup t x i ok) e h) (fun v h' => k v e h' ρ)) ∧
  (∀ (Y : Hint)(t : TypeId)(x i : Operand)(ok : Bool), escOps Y false (.lookup t x i ok) = []) ∧
  (∀ (t : TypeId)(x i : Operand)(ok : Bool), moveOp (.lookup t x i ok) = []) ∧
  (∀ (x : Operand), slE true x = [x]) ∧
  (∀ (x : Operand), slE false x = []) ∧
  (∀ (T : Tab)(e : Env)(h : Hp)(m : Nat)(a : Bool)(len : Nat)(el : TypeId)(z : List PV)(q : List EK)(bt : Nat)(cs : List PV)(lo hi : Option Operand), opSlice T e h (some ⟨m, a, .array len el, z, q, bt⟩) (.p (.ptr cs)) lo hi = slsK e h len cs lo hi (T el)) ∧
  (∀ (T : Tab)(ρ : Rws)(e : Env)(h : Hp)(t : TypeId)(l c : Operand), opS T ρ (.makeSlice t l c) e h = opMake T h (T t) (evO e l) (evO e c)) ∧
  (∀ (T : Tab)(h : Hp)(m : Nat)(a : Bool)(el : TypeId)(z : List PV)(q : List EK)(bt : Nat)(k k' : IntKind)(x y : Int), opMake T h (some ⟨m, a, .slice el, z, q, bt⟩) (.p (.val (.int k x))) (.p (.val (.int k' y))) = opMakeK h x y (T el)) ∧
  (∀ (h : Hp)(x y : Int)(te : TI), opMakeK h x y (some te) = .side (x = y ∧ 0 ≤ x ∧ (te.bytes : Int) * x ≤ 281474976710656 ∧ x ≤ 9223372036854775807) (.p (.fl x.toNat (rep x.toNat te.zero))) h) ∧
  (∀ (T : Tab)(ρ : Rws)(e : Env)(h : Hp)(t t' : TypeId)(s x : Operand), opS T ρ (.call ⟨.builtin .append, [s, x].toArray, [t, t'].toArray⟩) e h = opApp T h (Nat.beq t t') (T t) (evO e s) (evO e x)) ∧
  (∀ (T : Tab)(h : Hp)(m : Nat)(a : Bool)(el : TypeId)(z : List PV)(q : List EK)(bt n k : Nat)(cs news : List PV), opApp T h true (some ⟨m, a, .slice el, z, q, bt⟩) (.p (.fl n cs)) (.p (.sl k news)) = opAppK h n k cs news (T el)) ∧
  (∀ (h : Hp)(n k : Nat)(cs news : List PV)(te : TI), opAppK h n k cs news (some te) = .side (0 < k ∧ cs.length = n * te.size ∧ news.length = k * te.size ∧ 0 < te.size ∧ n + k ≤ maxLen ∧ (n + k) * te.bytes ≤ 140737488355328) (.p (.sl (n + k) (cs ++ news))) h) ∧
  (∀ (P : Program) (G : World → Prop) (T : Tab) (N : Nat) (Y : Hint)(e : Env) (h : Hp) (ρ : Rws) (Q : X → Env → Hp → Rws → Prop)(i : Nat)(o : List Oper), enK none P G T N Y i o e h ρ Q = tlK (tlOf Y.tl i) P G T N Y i o e h ρ Q) ∧
  (∀ (P : Program) (G : World → Prop) (T : Tab) (N : Nat) (Y : Hint)(e : Env) (h : Hp) (ρ : Rws) (Q : X → Env → Hp → Rws → Prop)(i : Nat)(o : List Oper)(t : ET), enK (some t) P G T N Y i o e h ρ Q = enP o t (vcT P G T N Y (Y.bw.contains i) o t e h ρ fun e h ρ => Q .normal e h ρ)) ∧
  (∀ (n : Nat), enOf [] n = none) ∧
  (∀ (i n : Nat)(L : ET)(r : List (Nat × ET)), enOf ((i, L) :: r) n = enK3 (n == i) L r n) ∧
  (∀ (n : Nat)(L : ET)(r : List (Nat × ET)), enK3 true L r n = some L) ∧
  (∀ (n : Nat)(L : ET)(r : List (Nat × ET)), enK3 false L r n = enOf r n) ∧
  (∀ (P : Program) (G : World → Prop) (T : Tab) (N : Nat) (Y : Hint)(e : Env) (h : Hp) (ρ : Rws) (b : Bool)(ol : List Oper)(k : Env → Hp → Rws → Prop), vcT P G T N Y b ol .done e h ρ k = k e h ρ) ∧
  (∀ (P : Program) (G : World → Prop) (T : Tab) (N : Nat) (Y : Hint)(e : Env) (h : Hp) (ρ : Rws) (b : Bool)(ol : List Oper)(k : Env → Hp → Rws → Prop)(i : Nat)(s : ET), vcT P G T N Y b ol (.step i s) e h ρ k = stK (opAt ol i) (fun l => vcR P G T N Y b ol.toArray l e h ρ fun e h ρ => vcT P G T N Y b ol s e h ρ k)) ∧
  (∀ (P : Program) (G : World → Prop) (T : Tab) (N : Nat) (Y : Hint)(e : Env) (h : Hp) (ρ : Rws) (b : Bool)(ol : List Oper)(k : Env → Hp → Rws → Prop)(i : Nat)(s t : ET), vcT P G T N Y b ol (.alt i s t) e h ρ k = (stK (opAt ol i) (fun l => vcR P G T N Y b ol.toArray l e h ρ fun e h ρ => vcT P G T N Y b ol s e h ρ k) ∧ vcT P G T N Y b ol t e h ρ k)) ∧
  (∀ (P : Program) (G : World → Prop) (T : Tab) (N : Nat) (Y : Hint)(e : Env) (h : Hp) (ρ : Rws) (b : Bool)(ol : List Oper)(k : Env → Hp → Rws → Prop)(i : Nat)(s : ET), vcT P G T N Y b ol (.free i s) e h ρ k = fmK (mvAt ol i) (fun d x => vcT P G T N Y b ol s (updo e d (evO e x)) h ρ k)) ∧
  (∀ (o : Oper)(l : List Oper), opAt (o :: l) 0 = [o]) ∧
  (∀ (o : Oper)(l : List Oper)(n : Nat), opAt (o :: l) (n + 1) = opAt l n) ∧
  (∀ (d : Option Nat)(x : Operand)(t : TypeId)(p : String)(af : Array Edge)(g : Option (Nat × Bool))(l : List Oper), mvAt (⟨d, .move x, t, p, af, g⟩ :: l) 0 = some (d, x)) ∧
  (∀ (o : Oper)(l : List Oper)(n : Nat), mvAt (o :: l) (n + 1) = mvAt l n) ∧
  (∀ (o : Oper)(f : List Oper → Prop), stK [o] f = f [o]) ∧
  (∀ (d : Option Nat)(x : Operand)(f : Option Nat → Operand → Prop), fmK (some (d, x)) f = f d x) :=
  ⟨by intros; rfl,
  by intros; rfl,
  by intros; rfl,
  by intros; rfl,
  fun (A : Prop)(pl : List (Nat × Nat))(o : Array Oper) => by simp [ordK],
  fun (A : Prop)(pl : List (Nat × Nat))(o : Array Oper) => by simp [ordK],
  by intros; rfl,
  by intros; rfl,
  by intros; rfl,
  by intros; rfl,
  by intros; rfl,
  by intros; rfl,
  by intros; rfl,
  by intros; rfl,
  by intros; rfl,
  by intros; rfl,
  by intros; rfl,
  by intros; rfl,
  by intros; rfl,
  by intros; rfl,
  by intros; rfl,
  by intros; rfl,
  by intros; rfl,
  by intros; rfl,
  by intros; rfl,
  by intros; rfl,
  by intros; rfl,
  by intros; rfl,
  by intros; rfl,
  by intros; rfl,
  by intros; rfl,
  by intros; rfl,
  by intros; rfl,
  by intros; rfl,
  by intros; rfl,
  by intros; rfl,
  by intros; rfl,
  by intros; rfl,
  by intros; rfl,
  by intros; rfl,
  by intros; rfl,
  fun (T : Tab)(op : BinOp)(t : TypeId)(k : IntKind)(x y : Int) => by simp [binS],
  by intros; rfl,
  by intros; rfl,
  by intros; rfl,
  by intros; rfl,
  by intros; rfl,
  by intros; rfl,
  by intros; rfl,
  by intros; rfl,
  by intros; rfl,
  by intros; rfl,
  by intros; rfl,
  by intros; rfl,
  by intros; rfl,
  by intros; rfl,
  by intros; rfl,
  by intros; rfl,
  by intros; rfl,
  by intros; rfl,
  by intros; rfl,
  by intros; rfl,
  by intros; rfl,
  by intros; rfl,
  by intros; rfl,
  by intros; rfl,
  by intros; rfl,
  by intros; rfl,
  by intros; rfl,
  by intros; rfl,
  by intros; rfl,
  by intros; rfl,
  by intros; rfl,
  by intros; rfl,
  by intros; rfl,
  by intros; rfl,
  by intros; rfl,
  by intros; rfl,
  by intros; rfl,
  by intros; rfl,
  by intros; rfl,
  by intros; rfl,
  by intros; rfl,
  by intros; rfl,
  by intros; rfl,
  by intros; rfl,
  by intros; rfl,
  by intros; rfl,
  by intros; rfl,
  by intros; rfl,
  by intros; rfl,
  by intros; rfl,
  by intros; rfl,
  by intros; rfl,
  by intros; rfl,
  by intros; rfl,
  by intros; rfl,
  by intros; rfl,
  by intros; rfl,
  by intros; rfl,
  by intros; rfl,
  by intros; rfl,
  by intros; rfl,
  by intros; rfl,
  by intros; rfl,
  by intros; rfl,
  by intros; rfl,
  by intros; rfl,
  by intros; rfl,
  by intros; rfl,
  by intros; rfl,
  by intros; rfl,
  by intros; rfl,
  by intros; rfl,
  by intros; rfl,
  by intros; rfl,
  by intros; rfl,
  by intros; rfl,
  by intros; rfl,
  by intros; rfl,
  by intros; rfl,
  by intros; rfl,
  by intros; rfl,
  by intros; rfl,
  by intros; rfl,
  by intros; rfl,
  fun (P : Program) (G : World → Prop) (T : Tab) (N : Nat) (Y : Hint)(e : Env) (h : Hp) (ρ : Rws) (Q : X → Env → Hp → Rws → Prop)(i : Nat)(o : List Oper) => by exact enK_eq ..,
  by intros; rfl,
  by intros; rfl,
  by intros; rfl,
  fun (Lt : List Nat)(b : Bool)(i : Nat)(d : Option Nat)(op : Op)(t : TypeId)(p : String)(af : Array Edge)(g : Option (Nat × Bool))(l : List Oper) => by exact selL_cons ..,
  by intros; rfl,
  by intros; rfl,
  by intros; rfl,
  by intros; rfl,
  by intros; rfl,
  by intros; rfl,
  by intros; rfl,
  fun (d : Option Nat)(op : Op)(t : TypeId)(p : String)(af : Array Edge)(g : Option (Nat × Bool))(l : List Oper) => by exact tailL_cons ..,
  by intros; rfl,
  by intros; rfl,
  by intros; rfl,
  by intros; rfl,
  by intros; rfl,
  by intros; rfl,
  by intros; rfl,
  by intros; rfl,
  by intros; rfl,
  by intros; rfl,
  by intros; rfl,
  by intros; rfl,
  by intros; rfl,
  by intros; rfl,
  by intros; rfl,
  by intros; rfl,
  by intros; rfl,
  by intros; rfl,
  fun (P : Program) (G : World → Prop) (T : Tab) (N : Nat) (Y : Hint)(e : Env) (h : Hp) (ρ : Rws) (Q : X → Env → Hp → Rws → Prop)(i : Nat)(b : Code) => by exact blkK_eq ..,
  by intros; rfl,
  by intros; rfl,
  by intros; rfl,
  by intros; rfl,
  fun (C : Env → Hp → Rws → Prop)(Q : X → Env → Hp → Rws → Prop)(e : Env)(h : Hp)(ρ : Rws)(i j : Nat) => by by_cases hj : j = i <;> simp [cutX, hj],
  by intros; rfl,
  by intros; rfl,
  by intros; rfl,
  by intros; rfl,
  by intros; rfl,
  by intros; rfl,
  by intros; rfl,
  by intros; rfl,
  fun (Q : X → Env → Hp → Rws → Prop)(e : Env)(h : Hp)(ρ : Rws)(i j : Nat) => by by_cases hj : j = i <;> simp [blockX, hj],
  by intros; rfl,
  by intros; rfl,
  by intros; rfl,
  by intros; rfl,
  by intros; rfl,
  by intros; rfl,
  fun (P : Program) (G : World → Prop) (T : Tab) (ρ : Rws) (N : Nat)(ol : List Oper)(os : List Oper)(e : Env)(h : Hp)(k : Env → Hp → Prop)(d : Option Nat)(op : Op)(t : TypeId)(p : String)(af : Array Edge)(j : Nat) => by rw [vcL]; simp only [dstAt_eq, grdK]; cases (ol.toArray[j]?).bind (·.dst) with | none => rfl | some d2 => (simp only [grdK2]; cases boolOf (e d2) with | none => (cases skipB (e d2) <;> rfl) | some b2 => rfl),
  fun (P : Program) (G : World → Prop) (T : Tab) (ρ : Rws) (N : Nat)(ol : List Oper)(os : List Oper)(e : Env)(h : Hp)(k : Env → Hp → Prop)(d : Option Nat)(op : Op)(t : TypeId)(p : String)(af : Array Edge)(j : Nat) => by rw [vcL]; simp only [dstAt_eq, grdK]; cases (ol.toArray[j]?).bind (·.dst) with | none => rfl | some d2 => (simp only [grdK2]; cases boolOf (e d2) with | none => (cases skipB (e d2) <;> rfl) | some b2 => rfl),
  by intros; rfl,
  by intros; rfl,
  fun (P : Program) (G : World → Prop) (T : Tab) (N : Nat)(Y : Hint)(b : Bool)(ol : List Oper)(os : List Oper)(e : Env)(h : Hp)(ρ : Rws)(k : Env → Hp → Rws → Prop)(d : Option Nat)(op : Op)(t : TypeId)(p : String)(af : Array Edge)(j : Nat) => by rw [vcR]; simp only [dstAt_eq, grdK]; cases (ol.toArray[j]?).bind (·.dst) with | none => rfl | some d2 => (simp only [grdK2]; cases boolOf (e d2) with | none => (cases skipB (e d2) <;> rfl) | some b2 => rfl),
  fun (P : Program) (G : World → Prop) (T : Tab) (N : Nat)(Y : Hint)(b : Bool)(ol : List Oper)(os : List Oper)(e : Env)(h : Hp)(ρ : Rws)(k : Env → Hp → Rws → Prop)(d : Option Nat)(op : Op)(t : TypeId)(p : String)(af : Array Edge)(j : Nat) => by rw [vcR]; simp only [dstAt_eq, grdK]; cases (ol.toArray[j]?).bind (·.dst) with | none => rfl | some d2 => (simp only [grdK2]; cases boolOf (e d2) with | none => (cases skipB (e d2) <;> rfl) | some b2 => rfl),
  by intros; rfl,
  by intros; rfl,
  by intros; rfl,
  by intros; rfl,
  fun (P : Program) (G : World → Prop)(h0 : Hp)(d : Option Nat)(k : SV → Hp → Prop)(t : TypeId)(cs : List PV) => by cases d <;> rfl,
  fun (P : Program) (G : World → Prop)(h0 h : Hp)(d : Option Nat)(k : SV → Hp → Prop)(c : Prop) [_i : Decidable c] (v : Value) => by by_cases hc : c <;> simp [hc, resK, binK],
  fun (P : Program) (G : World → Prop)(h0 h : Hp)(d : Option Nat)(k : SV → Hp → Prop)(c : Prop) [_i : Decidable c] (v : Value) => by by_cases hc : c <;> simp [hc, resK, binK],
  fun (P : Program) (G : World → Prop)(h0 h : Hp)(d : Option Nat)(k : SV → Hp → Prop)(c : Prop) [_i : Decidable c] (v : PV) => by by_cases hc : c <;> simp [hc, resK, loadK],
  fun (P : Program) (G : World → Prop)(h0 h : Hp)(d : Option Nat)(k : SV → Hp → Prop)(l : List Int)(f : Int → PV)(i : Nat) => by by_cases hc : i < l.length <;> simp [hc, resK, loadK, List.getD],
  by intros; rfl,
  by intros; rfl,
  by intros; rfl,
  by intros; rfl,
  by intros; rfl,
  by intros; rfl,
  by intros; rfl,
  by intros; rfl,
  by intros; rfl,
  by intros; rfl,
  by intros; rfl,
  by intros; rfl,
  by intros; rfl,
  by intros; rfl,
  fun (P : Program) (G : World → Prop)(T : Tab)(Y : Hint)(b : Bool)(d : Option Nat)(ty : TypeId)(e : Env)(h : Hp)(ρ : Rws)(k : SV → Env → Hp → Rws → Prop)(t : Nat) => by show resK P G h d (sv (e t) h) _ = _; rw [sv_eq, valK_eq]; rfl,
  fun (P : Program) (G : World → Prop)(T : Tab)(Y : Hint)(b : Bool)(d : Option Nat)(ty : TypeId)(e : Env)(h : Hp)(ρ : Rws)(k : SV → Env → Hp → Rws → Prop)(t : Nat) => by show resK P G h d (sv (e t) h) _ = _; rw [sv_eq, valK_eq]; rfl,
  by intros; rfl,
  by intros; rfl,
  fun (P : Program) (G : World → Prop)(T : Tab)(Y : Hint)(b : Bool)(d : Option Nat)(ty : TypeId)(e : Env)(h : Hp)(ρ : Rws)(k : SV → Env → Hp → Rws → Prop)(v : Value) => by unfold opK; simp only [escOps, escK, opR, isNil_const]; cases isNilV v <;> cases Y.em.contains ty <;> rfl,
  fun (P : Program) (G : World → Prop)(T : Tab)(Y : Hint)(b : Bool)(d : Option Nat)(ty : TypeId)(e : Env)(h : Hp)(ρ : Rws)(k : SV → Env → Hp → Rws → Prop)(v : Value) => by unfold opK; simp only [escOps, escK, opR, isNil_const]; cases isNilV v <;> cases Y.em.contains ty <;> rfl,
  by intros; rfl,
  by intros; rfl,
  by intros; rfl,
  by intros; rfl,
  by intros; rfl,
  by intros; rfl,
  by intros; rfl,
  by intros; rfl,
  by intros; rfl,
  by intros; rfl,
  by intros; rfl,
  by intros; rfl,
  by intros; rfl,
  by intros; rfl,
  by intros; rfl,
  by intros; rfl,
  by intros; rfl,
  by intros; rfl,
  by intros; rfl,
  by intros; rfl,
  by intros; rfl,
  by intros; rfl,
  by intros; rfl,
  by intros; rfl,
  fun (P : Program) (G : World → Prop)(T : Tab)(Y : Hint)(b : Bool)(d : Option Nat)(ty : TypeId)(e : Env)(h : Hp)(ρ : Rws)(k : SV → Env → Hp → Rws → Prop)(t : TypeId)(n : Nat)(x : Nat × Operand)(l : List (Nat × Operand)) => by exact bsK_eq P G T Y b d ty e h ρ k t n x l,
  by intros; rfl,
  by intros; rfl,
  by intros; rfl,
  by intros; rfl,
  by intros; rfl,
  by intros; rfl,
  by intros; rfl,
  by intros; rfl,
  by intros; rfl,
  by intros; rfl,
  by intros; rfl,
  by intros; rfl,
  by intros; rfl,
  by intros; rfl,
  by intros; rfl,
  by intros; rfl,
  by intros; rfl,
  by intros; rfl,
  fun (P : Program) (G : World → Prop)(T : Tab)(Y : Hint)(b : Bool)(d : Option Nat)(ty : TypeId)(e : Env)(h : Hp)(ρ : Rws)(k : SV → Env → Hp → Rws → Prop)(f : FuncId)(l : List Operand)(ts : Array TypeId) => by exact calK_eq P G T Y b d ty e h ρ k f l ts,
  by intros; rfl,
  by intros; rfl,
  by intros; rfl,
  by intros; rfl,
  by intros; rfl,
  by intros; rfl,
  by intros; rfl,
  by intros; rfl,
  by intros; rfl,
  by intros; rfl,
  by intros; rfl,
  by intros; rfl,
  by intros; rfl,
  by intros; rfl,
  by intros; rfl,
  by intros; rfl,
  by intros; rfl,
  by intros; rfl,
  by intros; rfl,
  by intros; rfl,
  by intros; rfl,
  by intros; rfl,
  by intros; rfl,
  by intros; rfl,
  fun (ρ : Rws)(d : Option Nat)(f : Nat → Prop) => by unfold freshR frRK frR2 rwAt; cases d <;> rfl,
  by intros; rfl,
  by intros; rfl,
  by intros; rfl,
  by intros; rfl,
  by intros; rfl,
  by intros; rfl,
  by intros; rfl,
  by intros; rfl,
  by intros; rfl,
  by intros; rfl,
  by intros; rfl,
  by intros; rfl,
  by intros; rfl,
  by intros; rfl,
  by intros; rfl,
  by intros; rfl,
  fun (P : Program) (G : World → Prop)(T : Tab)(d : Option Nat)(op : Op)(e : Env)(h : Hp)(ρ : Rws)(k : SV → Env → Hp → Rws → Prop)(q : RowE)(c : Prop) => by cases d <;> rfl,
  by intros; rfl,
  by intros; rfl,
  by intros; rfl,
  by intros; rfl,
  by intros; rfl,
  by intros; rfl,
  by intros; rfl,
  by intros; rfl,
  by intros; rfl,
  by intros; rfl,
  by intros; rfl,
  by intros; rfl,
  by intros; rfl,
  by intros; rfl,
  by intros; rfl,
  by intros; rfl,
  by intros; rfl,
  by intros; rfl,
  by intros; rfl,
  by intros; rfl,
  by intros; rfl,
  by intros; rfl,
  by intros; rfl,
  by intros; rfl,
  by intros; rfl,
  by intros; rfl,
  by intros; rfl,
  by intros; rfl,
  by intros; rfl,
  by intros; rfl,
  by intros; rfl,
  by intros; rfl,
  by intros; rfl,
  by intros; rfl,
  by intros; rfl,
  fun (ρ : Rws)(ti : TI)(nm o : Nat)(z : PV) => by show (match some ti, ρ nm, SV.p z with | some ti, some q, .p z => (match cellsP z with | some zs => RR.put nm { q with cs := q.cs.take o ++ zs ++ q.cs.drop (o + zs.length) } (.p (.val undef)) (zs.length = ti.size ∧ o + zs.length ≤ q.cs.length ∧ zs.all leafP = true) | none => .bad) | _, _, _ => .bad) = _; cases ρ nm with | none => rfl | some q2 => (show (match cellsP z with | some zs => _ | none => RR.bad) = rStK nm o ti (some q2) (cellsP z); cases cellsP z <;> rfl),
  by intros; rfl,
  by intros; rfl,
  by intros; rfl,
  by intros; rfl,
  fun (T : Tab)(e : Env)(ρ : Rws)(m : Nat)(a : Bool)(el : TypeId)(z : List PV)(q : List EK)(bt : Nat)(nm : Nat)(lo hi : Option Operand) => by simp only [rSlice, rSlK]; cases ρ nm with | none => rfl | some q2 => (dsimp only; cases T el with | none => rfl | some te => (simp only [rSl2]; cases bndP e lo 0 <;> cases bndP e hi (q2.n : Nat) <;> rfl)),
  by intros; rfl,
  by intros; rfl,
  by intros; rfl,
  by intros; rfl,
  by intros; rfl,
  by intros; rfl,
  fun (T : Tab)(ρ : Rws)(t : Option TI)(s x : SV) => by unfold rAppN; split <;> first | contradiction | rfl,
  by intros; rfl,
  fun (T : Tab)(ρ : Rws)(t : Option TI)(s : SV)(news : List PV) => by unfold rAppN; cases t <;> rfl,
  by intros; rfl,
  fun (v : Value) => by exact isNil_const v,
  fun (T : Tab)(ρ : Rws)(m : Nat)(a : Bool)(el : TypeId)(z : List PV)(q : List EK)(bt nm n : Nat)(news : List PV) => by simp only [rAppend, rApK]; cases ρ nm with | none => rfl | some q2 => (dsimp only; cases T el <;> rfl),
  by intros; rfl,
  by intros; rfl,
  by intros; rfl,
  by intros; rfl,
  by intros; rfl,
  by intros; rfl,
  by intros; rfl,
  by intros; rfl,
  by intros; rfl,
  by intros; rfl,
  by intros; rfl,
  by intros; rfl,
  by intros; rfl,
  by intros; rfl,
  by intros; rfl,
  by intros; rfl,
  by intros; rfl,
  by intros; rfl,
  by intros; rfl,
  by intros; rfl,
  by intros; rfl,
  by intros; rfl,
  by intros; rfl,
  by intros; rfl,
  by intros; rfl,
  by intros; rfl,
  by intros; rfl,
  by intros; rfl,
  by intros; rfl,
  by intros; rfl,
  by intros; rfl,
  by intros; rfl,
  by intros; rfl,
  by intros; rfl,
  by intros; rfl,
  by intros; rfl,
  by intros; rfl,
  by intros; rfl,
  by intros; rfl,
  by intros; rfl,
  by intros; rfl,
  by intros; rfl,
  by intros; rfl,
  by intros; rfl,
  by intros; rfl,
  by intros; rfl,
  by intros; rfl,
  by intros; rfl,
  by intros; rfl,
  by intros; rfl,
  by intros; rfl,
  by intros; rfl,
  by intros; rfl,
  by intros; rfl,
  by intros; rfl,
  by intros; rfl,
  by intros; rfl,
  by intros; rfl,
  by intros; rfl,
  by intros; rfl,
  by intros; rfl,
  by intros; rfl,
  fun (n : Nat)(d : TD)(z : List PV)(q : List EK)(bt : Nat)(l : List PV)(i : Nat) => by simp [loadP, List.head?_drop],
  fun (n : Nat)(d : TD)(z : List PV)(q : List EK)(bt : Nat)(f : Int → PV)(l : List Int) => by cases l <;> rfl,
  by intros; rfl,
  by intros; rfl,
  by intros; rfl,
  by intros; rfl,
  by intros; rfl,
  by intros; rfl,
  by intros; rfl,
  by intros; rfl,
  by intros; rfl,
  by intros; rfl,
  by intros; rfl,
  by intros; rfl,
  by intros; rfl,
  by intros; rfl,
  by intros; rfl,
  by intros; rfl,
  by intros; rfl,
  by intros; rfl,
  by intros; rfl,
  by intros; rfl,
  by intros; rfl,
  by intros; rfl,
  by intros; rfl,
  by intros; rfl,
  by intros; rfl,
  by intros; rfl,
  by intros; rfl,
  by intros; rfl,
  by intros; rfl,
  fun (T : Tab)(e : Env)(h : Hp)(m : Nat)(a : Bool)(el : TypeId)(z : List PV)(q : List EK)(bt : Nat)(n : Nat)(cs : List PV)(lo hi : Option Operand) => by simp only [opSlice, slsK]; cases T el with | none => rfl | some te => (simp only [slcK]; cases bndP e lo 0 <;> cases bndP e hi (n : Nat) <;> rfl),
  fun (T : Tab)(e : Env)(h : Hp)(m : Nat)(a : Bool)(el : TypeId)(z : List PV)(q : List EK)(bt : Nat)(n : Nat)(cs : List PV)(lo hi : Option Operand) => by simp only [opSlice, slsK]; cases T el with | none => rfl | some te => (simp only [slcK]; cases bndP e lo 0 <;> cases bndP e hi (n : Nat) <;> rfl),
  by intros; rfl,
  by intros; rfl,
  by intros; rfl,
  by intros; rfl,
  by intros; rfl,
  by intros; rfl,
  fun (ρ : Rws)(h : Hp)(m : Nat)(a : Bool)(el : TypeId)(z : List PV)(q : List EK)(bt : Nat)(nm : Nat) => by simp only [opLen]; cases ρ nm <;> rfl,
  by intros; rfl,
  by intros; rfl,
  by intros; rfl,
  by intros; rfl,
  by intros; rfl,
  by intros; rfl,
  by intros; rfl,
  by intros; rfl,
  by intros; rfl,
  by intros; rfl,
  by intros; rfl,
  by intros; rfl,
  by intros; rfl,
  by intros; rfl,
  by intros; rfl,
  by intros; rfl,
  by intros; rfl,
  by intros; rfl,
  by intros; rfl,
  by intros; rfl,
  by intros; rfl,
  by intros; rfl,
  by intros; rfl,
  by intros; rfl,
  by intros; rfl,
  by intros; rfl,
  by intros; rfl,
  by intros; rfl,
  by intros; rfl,
  by intros; rfl,
  by intros; rfl,
  fun (α : Type)(l : List α) => by simp,
  by intros; rfl,
  by intros; rfl,
  by intros; rfl,
  by intros; rfl,
  fun (α : Type)(m : List α) => by simp,
  by intros; rfl,
  by intros; rfl,
  fun (α : Type)(p : α → Bool)(x : α)(l : List α) => by simp,
  fun (α : Type)(p : α → Bool) => by simp,
  by intros; rfl,
  by intros; rfl,
  fun (p : Prop) => by simp,
  fun (p : Prop) => by simp,
  fun (b : Bool) => by simp,
  fun (b : Bool) => by simp,
  fun (b : Bool) => by simp,
  fun (b : Bool) => by simp,
  by intros; rfl,
  by intros; rfl,
  by simp,
  by simp,
  fun (α : Type)(x : α) => by simp,
  by intros; rfl,
  fun (f : Int → PV)(l : List Int)(i : Nat) => by simp,
  fun (f : Int → PV)(l : List Int)(i : Nat) => by simp,
  fun (f : Int → PV)(l : List Int)(i : Nat) => by simp,
  fun (f : Int → PV)(l : List Int) => by simp,
  fun (f : Int → PV)(l m : List Int) => by simp,
  fun (n : Nat) => by simp,
  by intros; rfl,
  by intros; rfl,
  fun (t : Nat) => by rfl,
  fun (t : Nat) => by rfl,
  fun (t : Nat) => by rfl,
  fun (t a : Nat)(s : SV)(l : Ls) => by exact envL_cons t a s l,
  fun (t a : Nat)(s : TypeId × List PV)(l : Lh) => by exact hpL_cons t a s l,
  fun (t a : Nat)(s : RowE)(l : Lr) => by exact rwL_cons t a s l,
  fun (l : List Int)(i : Nat) => by simp [List.getD],
  fun (l : List Int)(i : Nat) => by simp; omega,
  fun (n : Nat) => by simp,
  fun (n a : Nat)(l : List Nat) => by rw [List.contains_cons],
  fun (n : Nat) => by simp,
  fun (t : Nat) => by simp,
  fun (b : Bool) => by simp,
  by intros; rfl,
  fun (b : Bool) => by simp,
  by intros; rfl,
  by intros; rfl,
  by intros; rfl,
  by intros; rfl,
  by intros; rfl,
  by intros; rfl,
  by intros; rfl,
  by intros; rfl,
  by intros; rfl,
  by intros; rfl,
  by intros; rfl,
  by intros; rfl,
  by intros; rfl,
  by intros; rfl,
  by intros; rfl,
  by intros; rfl,
  by intros; rfl,
  by intros; rfl,
  by intros; rfl,
  by intros; rfl,
  by intros; rfl,
  by intros; rfl,
  by intros; rfl,
  by intros; rfl,
  by intros; rfl,
  fun (l : List UInt8) => by rfl,
  fun (l : List UInt8)(i : Nat) => by exact ba_get l i,
  fun (l m : List UInt8) => by exact ba_app l m,
  fun (l : List UInt8) => by exact ByteArray.toList_mk l,
  fun (l : List UInt8)(a b : Nat) => by exact ByteArray.extract_mk l a b,
  by intros; rfl,
  by intros; rfl,
  by intros; rfl,
  by intros; rfl,
  by intros; rfl,
  by intros; rfl,
  by intros; rfl,
  by intros; rfl,
  by intros; rfl,
  by intros; rfl,
  by intros; rfl,
  by intros; rfl,
  by intros; rfl,
  by intros; rfl,
  fun (T : Tab)(e : Env)(h : Hp)(m : Nat)(a : Bool)(len : Nat)(el : TypeId)(z : List PV)(q : List EK)(bt : Nat)(cs : List PV)(lo hi : Option Operand) => by simp only [opSlice, slsK]; cases T el with | none => rfl | some te => (simp only [slcK]; cases bndP e lo 0 <;> cases bndP e hi (len : Nat) <;> rfl),
  by intros; rfl,
  by intros; rfl,
  by intros; rfl,
  by intros; rfl,
  by intros; rfl,
  by intros; rfl,
  by intros; rfl,
  by intros; rfl,
  by intros; rfl,
  fun (i n : Nat)(L : ET)(r : List (Nat × ET)) => by rw [enOf]; unfold enK3; cases n == i <;> rfl,
  by intros; rfl,
  by intros; rfl,
  by intros; rfl,
  by intros; rfl,
  by intros; rfl,
  fun (P : Program) (G : World → Prop) (T : Tab) (N : Nat) (Y : Hint)(e : Env) (h : Hp) (ρ : Rws) (b : Bool)(ol : List Oper)(k : Env → Hp → Rws → Prop)(i : Nat)(s : ET) => by rw [vcT]; unfold fmK; cases mvAt ol i with | none => rfl | some y => rfl,
  by intros; rfl,
  by intros; rfl,
  by intros; rfl,
  by intros; rfl,
  by intros; rfl,
  by intros; rfl⟩
end Go.Sx
