/- A part of a proof; the last text of this claim says of what. -/
import Derived.Test.YtnlabeglboomlaaGreatDoorV18
set_option linter.unusedVariables false
set_option linter.unusedSimpArgs false
set_option linter.unusedSectionVars false
namespace Go.Sx
open Go Go.RowKit Go.Shelf Go.Proofs
def vcIf (b : Bool) (A B : Prop) : Prop := match b with | true => A | false => B
def fresh (h : Hp) (d : Option Nat) (f : Nat → Prop) : Prop :=
  match d with
  | some d => (match h d with | none => f d | some _ => False)
  | none => False
def boolOf : SV → Option Bool
  | .p (.val (.bool b)) => some b
  | _ => none
theorem boolOf_spec {s : SV} {b : Bool} (h : boolOf s = some b) : s = .p (.val (.bool b)) := by
  unfold boolOf at h
  split at h
  · cases h; rfl
  · cases h
inductive Res where
  | ok (v : SV) (h : Hp)
  | side (c : Prop) (v : SV) (h : Hp)
  | br (b : Bool) (v1 v2 : SV) (h : Hp)
  | new (t : TypeId) (cs : List PV)
  | call (g : FuncId) (args : List PV)
  | bad
def CallK (P : Program) (G : World → Prop) (g : FuncId) (args : List PV) (K : PV → Prop) : Prop := ∃ y, Meets P G g args y ∧ K y
def resK (P : Program) (G : World → Prop) (h0 : Hp) (d : Option Nat) (r : Res) (k : SV → Hp → Prop) : Prop :=
  match r with
  | .ok v h => k v h
  | .side c v h => c ∧ k v h
  | .br b v1 v2 h => vcIf b (k v1 h) (k v2 h)
  | .new t cs => fresh h0 d fun nm => k (.box nm 0) (upd h0 nm (some (t, cs)))
  | .call g args => CallK P G g args fun y => k (.p y) h0
  | .bad => False
def sv (s : SV) (h : Hp) : Res := match s with | .p x => .ok (.p x) h | .box a b => .ok (.box a b) h | .orow a => .ok (.orow a) h | .rowp a b => .ok (.rowp a b) h | .any => .ok .any h
def opLoad (ρ : Rws) (h : Hp) (s : SV) (t : Option TI) : Res :=
  match t, s with
  | some ti, .box nm off => (match h nm with | some (_, cs) => (match loadP ti (cs.drop off) with | some y => .ok (.p y) h | none => .bad) | none => .bad)
  | some ti, .rowp nm off => (match ρ nm with | some q => (match loadP ti (q.cs.drop off) with | some y => .ok (.p y) h | none => .bad) | none => .bad)
  | some ti, .p (.ptr cs) => (match loadP ti cs with | some y => .ok (.p y) h | none => .bad)
  | _, _ => .bad
def opStore (h : Hp) (t : Option TI) (x y : SV) : Res :=
  match t, x, y with
  | some ti, .box nm off, .p z => (match h nm, cellsP z with
    | some (T0, cs), some zs => .side (zs.length = ti.size ∧ off + zs.length ≤ cs.length ∧ zs.all leafP = true) (.p (.val undef)) (upd h nm (some (T0, cs.take off ++ zs ++ cs.drop (off + zs.length))))
    | _, _ => .bad)
  | _, _, _ => .bad
def opNilC (h : Hp) (s : SV) : Res := match s with | .p (.ptr cs) => .ok (.p (.ptr cs)) h | .box a b => .ok (.box a b) h | .rowp a b => .ok (.rowp a b) h | _ => .bad
def opFieldAddr (h : Hp) (f : Option (Nat × TI)) (x : SV) : Res :=
  match f, x with
  | some (off, tf), .box nm o => .side (tf.size ≠ 0) (.box nm (o + off)) h
  | some (off, tf), .p (.ptr cs) => .side (tf.size ≠ 0) (.p (.ptr (cs.drop off))) h
  | some (off, tf), .rowp nm o => .side (tf.size ≠ 0) (.rowp nm (o + off)) h
  | _, _ => .bad
def opField (h : Hp) (f : Option (Nat × TI)) (x : SV) : Res :=
  match f, x with
  | some (off, tf), .p (.agg cs) => (match loadP tf (cs.drop off) with | some y => .side (off + tf.size ≤ cs.length) (.p y) h | none => .bad)
  | _, _ => .bad
def opBin (T : Tab) (h : Hp) (op : BinOp) (t : TypeId) (x y : SV) : Res :=
  match x, y with
  | .p a, .p b => (match binS T op t a b with | some c => .ok (.p (.val c)) h | none => .bad)
  | _, _ => .bad
def opUn (h : Hp) (op : UnOp) (x : SV) : Res :=
  match op, x with
  | .not, .p (.val (.bool b)) => .ok (.p (.val (.bool !b))) h
  | .neg, .p (.val (.int kk n)) => .ok (.p (.val (.int kk (kk.wrap (0 - n))))) h
  | _, _ => .bad
def opExtract (h : Hp) (x : SV) (i : Nat) : Res :=
  match x with
  | .p (.tup vs) => (match vs[i]? with | some y => .ok (.p y) h | none => .bad)
  | _ => .bad
def opLookup (T : Tab) (h : Hp) (t : Option TI) (x i : SV) (ok : Bool) : Res :=
  match t, x, i, ok with
  | some ti, .p (.mp l), .p (.val (.int .u8 n)), false => (match ti.d with
    | .map kt => (match T kt, mpGet l n with | some te, some g => .side (te.d = .int .u8) (.p (.clo g [] [])) h | _, _ => .bad)
    | _ => .bad)
  | _, _, _, _ => .bad
def opConvert (T : Tab) (h : Hp) (s d : Option TI) (x : SV) : Res :=
  match s, d, x with
  | some ts, some td, .p (.val (.int _ n)) => (match td.d with | .int kk => .ok (.p (.val (.int kk (kk.wrap n)))) h | _ => .bad)
  | some ts, some td, .p (.val (.string y)) => (match td.d, ts.d with | .string, .string => .ok (.p (.val (.string y))) h | _, _ => .bad)
  | some ts, some td, .p (.sl n cs) => (match td.d, ts.d with
    | .string, .slice el => (match T el, bytesP cs with
      | some te, some l => .side (te.d = .int .u8 ∧ te.size = 1 ∧ cs.length = n) (.p (.val (.string ⟨l.toArray⟩))) h
      | _, _ => .bad)
    | _, _ => .bad)
  | _, _, _ => .bad
def opBuild (T : Tab) (h : Hp) (t : Option TI) (ps : Option (List (Nat × PV))) : Res :=
  match t, ps with
  | some ti, some ps => (match fillP T ti.d ti.zero ps with | some cs => .side (partsOk T ti.d = true) (.p (.agg cs)) h | none => .bad)
  | _, _ => .bad
def opBuildSlice (T : Tab) (h : Hp) (t : Option TI) (n : Nat) (ps : Option (List (Nat × PV))) : Res :=
  match t, ps with
  | some ti, some ps => (match ti.d with
    | .slice el => (match T el with
      | some te => (match fillP T (.slice el) (rep n te.zero) ps with | some cs => .side (n * te.size ≤ 16777216 ∧ n * te.size ≠ 0 ∧ te.zero.length = te.size) (.p (.sl n cs)) h | none => .bad)
      | none => .bad)
    | _ => .bad)
  | _, _ => .bad
def opIndex (T : Tab) (h : Hp) (t : Option TI) (i x : SV) : Res :=
  match t, i, x with
  | some ti, .p (.val (.int _ n)), .p (.val (.string s)) => (match ti.d with | .string => .side (0 ≤ n ∧ n.toNat < s.size) (.p (.val (.int .u8 ((s[n.toNat]?.getD 0).toNat : Int)))) h | _ => .bad)
  | some ti, .p (.val (.int _ n)), .p (.agg cs) => (match ti.d with
    | .array len el => (match T el with
      | some te => (match loadP te (cs.drop (n.toNat * te.size)) with | some y => .side (0 ≤ n ∧ n.toNat < len ∧ n.toNat * te.size + te.size ≤ cs.length) (.p y) h | none => .bad)
      | none => .bad)
    | _ => .bad)
  | _, _, _ => .bad
def opIndexAddr (T : Tab) (ρ : Rws) (h : Hp) (t : Option TI) (i x : SV) : Res :=
  match t, i with
  | some ti, .p (.val (.int _ n)) => (match ti.d with
    | .slice el => (match T el, x with
      | some te, .p (.sl len cs) => .side (0 ≤ n ∧ n.toNat < len ∧ n.toNat * te.size < cs.length) (.p (.ptr (cs.drop (n.toNat * te.size)))) h
      | some te, .orow nm => (match ρ nm with | some q => .side (0 ≤ n ∧ n.toNat < q.n) (.rowp nm (n.toNat * te.size)) h | none => .bad)
      | _, _ => .bad)
    | .array len el => (match T el, x with
      | some te, .box nm o => .side (0 ≤ n ∧ n.toNat < len) (.box nm (o + n.toNat * te.size)) h
      | some te, .rowp nm o => .side (0 ≤ n ∧ n.toNat < len) (.rowp nm (o + n.toNat * te.size)) h
      | some te, .p (.ptr cs) => .side (0 ≤ n ∧ n.toNat < len) (.p (.ptr (cs.drop (n.toNat * te.size)))) h
      | _, _ => .bad)
    | _ => .bad)
  | _, _ => .bad
def opLen (ρ : Rws) (h : Hp) (t : Option TI) (x : SV) : Res :=
  match t, x with
  | some ti, .p (.val (.string s)) => (match ti.d with | .string => .ok (.p (.val (.int .i64 (s.size : Nat)))) h | _ => .bad)
  | some ti, .p (.sl n cs) => (match ti.d with | .slice _ => .ok (.p (.val (.int .i64 (n : Nat)))) h | _ => .bad)
  | some ti, .orow nm => (match ti.d, ρ nm with | .slice _, some q => .ok (.p (.val (.int .i64 (q.n : Nat)))) h | _, _ => .bad)
  | _, _ => .bad
def sliceK (h : Hp) (l m : Int) (len : Nat) (v : SV) : Res := .side (0 ≤ l ∧ l ≤ m ∧ m ≤ (len : Nat)) v h
def opSlice (T : Tab) (e : Env) (h : Hp) (t : Option TI) (x : SV) (lo hi : Option Operand) : Res :=
  match t, x with
  | some ti, .p (.val (.string s)) => (match ti.d with
    | .string => (match bndP e lo 0, bndP e hi (s.size : Nat) with | some l, some m => sliceK h l m s.size (.p (.val (.string (s.extract l.toNat m.toNat)))) | _, _ => .bad)
    | _ => .bad)
  | some ti, .p (.sl len cs) => (match ti.d with
    | .slice el => (match T el, bndP e lo 0, bndP e hi (len : Nat) with | some te, some l, some m => sliceK h l m len (.p (.sl (m.toNat - l.toNat) ((cs.take (m.toNat * te.size)).drop (l.toNat * te.size)))) | _, _, _ => .bad)
    | _ => .bad)
  | some ti, .p (.ptr cs) => (match ti.d with
    | .array len el => (match T el, bndP e lo 0, bndP e hi (len : Nat) with | some te, some l, some m => sliceK h l m len (.p (.sl (m.toNat - l.toNat) ((cs.take (m.toNat * te.size)).drop (l.toNat * te.size)))) | _, _, _ => .bad)
    | _ => .bad)
  | _, _ => .bad
def opFunc (h : Hp) (f : FuncId) (fs cs : Option (List PV)) : Res :=
  match fs, cs with
  | some fs, some cs => .ok (.p (.clo f fs cs)) h
  | _, _ => .bad
def opMax (h : Hp) (x y : SV) : Res :=
  match x, y with
  | .p (.val (.int ka a)), .p (.val (.int kb b)) => .side (ka = kb) (.p (.val (.int ka (if b > a then b else a)))) h
  | _, _ => .bad
def opMin (h : Hp) (x y : SV) : Res :=
  match x, y with
  | .p (.val (.int ka a)), .p (.val (.int kb b)) => .side (ka = kb) (.p (.val (.int ka (if b < a then b else a)))) h
  | _, _ => .bad
def opCall (g : SV) (args : Option (List PV)) : Res :=
  match g, args with
  | .p (.clo g fs cs), some args => .call g (fs ++ args ++ cs)
  | _, _ => .bad
def opMakeK (h : Hp) (n m : Int) (te : Option TI) : Res := match te with | some te => .side (n = m ∧ 0 ≤ n ∧ (te.bytes : Int) * n ≤ 281474976710656 ∧ n ≤ 9223372036854775807) (.p (.fl n.toNat (rep n.toNat te.zero))) h | none => .bad
def opMake (T : Tab) (h : Hp) (t : Option TI) (l c : SV) : Res :=
  match t, l, c with
  | some ti, .p (.val (.int _ n)), .p (.val (.int _ m)) => (match ti.d with | .slice el => opMakeK h n m (T el) | _ => .bad)
  | _, _, _ => .bad
def opAppK (h : Hp) (n m : Nat) (cs news : List PV) (te : Option TI) : Res := match te with | some te => .side (0 < m ∧ cs.length = n * te.size ∧ news.length = m * te.size ∧ 0 < te.size ∧ n + m ≤ maxLen ∧ (n + m) * te.bytes ≤ 140737488355328) (.p (.sl (n + m) (cs ++ news))) h | none => .bad
def opApp (T : Tab) (h : Hp) (b : Bool) (t : Option TI) (s x : SV) : Res :=
  match b, t, s, x with
  | true, some ti, .p (.fl n cs), .p (.sl m news) => (match ti.d with | .slice el => opAppK h n m cs news (T el) | _ => .bad)
  | _, _, _, _ => .bad
def opFO (T : Tab) (t : Option TI) (f : Nat) : Option (Nat × TI) := match t with | some ti => fieldOff T ti f | none => none
def opS (T : Tab) (ρ : Rws) (op : Op) (e : Env) (h : Hp) : Res :=
  match op with
  | .move x | .assign x => sv (evO e x) h
  | .pick c x y => (match boolOf (evO e c) with | some t => .br t (evO e x) (evO e y) h | none => .bad)
  | .alloc t => (match T t with | some ti => .new t ti.zero | none => .bad)
  | .box t x => (match evO e x with | .p y => (match cellsP y with | some cs => .new t cs | none => .bad) | _ => .bad)
  | .load t x => opLoad ρ h (evO e x) (T t)
  | .store t x y => opStore h (T t) (evO e x) (evO e y)
  | .nilCheck x => opNilC h (evO e x)
  | .fieldAddr t x f => opFieldAddr h (opFO T (T t) f) (evO e x)
  | .field t x f => opField h (opFO T (T t) f) (evO e x)
  | .binOp op t x y _ => opBin T h op t (evO e x) (evO e y)
  | .unOp op _ x => opUn h op (evO e x)
  | .lookup t x i ok => opLookup T h (T t) (evO e x) (evO e i) ok
  | .extract x i => opExtract h (evO e x) i
  | .convert s d x => opConvert T h (T s) (T d) (evO e x)
  | .build t parts => opBuild T h (T t) (partsP e parts.toList)
  | .buildSlice t n parts => opBuildSlice T h (T t) n (partsP e parts.toList)
  | .index t x i => opIndex T h (T t) (evO e i) (evO e x)
  | .indexAddr t x i => opIndexAddr T ρ h (T t) (evO e i) (evO e x)
  | .slice t x lo hi none => opSlice T e h (T t) (evO e x) lo hi
  | .makeFunc (.func f) fs cs => opFunc h f (evPs e fs.toList) (evPs e cs.toList)
  | .call ⟨.builtin .len, ⟨[x]⟩, ⟨t :: _⟩⟩ => opLen ρ h (T t) (evO e x)
  | .call ⟨.builtin .max, ⟨[x, y]⟩, _⟩ => opMax h (evO e x) (evO e y)
  | .call ⟨.builtin .min, ⟨[x, y]⟩, _⟩ => opMin h (evO e x) (evO e y)
  | .call ⟨.value f, args, _⟩ => opCall (evO e f) (evPs e args.toList)
  | .makeSlice t l c => opMake T h (T t) (evO e l) (evO e c)
  | .call ⟨.builtin .append, ⟨[s, x]⟩, ⟨[t, t']⟩⟩ => opApp T h (Nat.beq t t') (T t) (evO e s) (evO e x)
  | _ => .bad
theorem fresh_spec {h : Hp} {d : Option Nat} {f : Nat → Prop} (hf : fresh h d f) : ∃ nm, d = some nm ∧ h nm = none ∧ f nm := by
  unfold fresh at hf
  split at hf
  · split at hf
    · rename_i h1; exact ⟨_, rfl, h1, hf⟩
    · exact hf.elim
  · exact hf.elim
section
variable {P : Program} {G : World → Prop} {T : Tab} {ρ : Rws} {N : Nat} {e e' : Env} {h h' : Hp} {o : Oper} {v : SV} {ops : Array Oper}
theorem nat_of {n : Int} (h : 0 ≤ n) : n = ((n.toNat : Nat) : Int) := by omega
theorem sv_eq (s : SV) (h : Hp) : sv s h = .ok s h := by cases s <;> rfl
set_option maxHeartbeats 4000000 in
theorem opS_sound {k : SV → Hp → Prop} (hv : resK P G h o.dst (opS T ρ o.op e h) k) : ∃ v h', Sop P G T ρ o e h v h' ∧ k v h' := by
  unfold opS at hv
  split at hv <;> rename_i ho
  · rename_i x; rw [sv_eq] at hv; exact ⟨_, _, by unfold Sop; rw [ho]; exact ⟨rfl, rfl⟩, hv⟩
  · rename_i x; rw [sv_eq] at hv; exact ⟨_, _, by unfold Sop; rw [ho]; exact ⟨rfl, rfl⟩, hv⟩
  · rename_i c x y
    split at hv
    · rename_i t hc
      have hc := boolOf_spec hc
      cases t
      · exact ⟨_, _, by unfold Sop; rw [ho]; exact ⟨false, hc, rfl, rfl⟩, hv⟩
      · exact ⟨_, _, by unfold Sop; rw [ho]; exact ⟨true, hc, rfl, rfl⟩, hv⟩
    · exact hv.elim
  · rename_i t
    split at hv
    · rename_i ti ht
      obtain ⟨nm, h0, h1, h2⟩ := fresh_spec hv
      exact ⟨_, _, by unfold Sop; rw [ho]; exact ⟨nm, ti, h0, ht, h1, rfl, rfl⟩, h2⟩
    · exact hv.elim
  · rename_i t x
    split at hv
    · rename_i y hy
      split at hv
      · rename_i cs hc
        obtain ⟨nm, h0, h1, h2⟩ := fresh_spec hv
        exact ⟨_, _, by unfold Sop; rw [ho]; exact ⟨nm, y, cs, h0, hy, hc, h1, rfl, rfl⟩, h2⟩
      · exact hv.elim
    · exact hv.elim
  · rename_i t x
    unfold opLoad at hv
    split at hv
    · rename_i ti nm off ht hx
      split at hv
      · rename_i T0 cs hh
        split at hv
        · rename_i y hy
          exact ⟨_, _, by unfold Sop; rw [ho]; exact ⟨rfl, by rw [hx]; rfl, ti, y, ht, by rw [hx]; simp only [cellsAt, hh]; exact hy, rfl⟩, hv⟩
        · exact hv.elim
      · exact hv.elim
    · rename_i ti nm off ht hx
      split at hv
      · rename_i q hq
        split at hv
        · rename_i y hy
          exact ⟨_, _, by unfold Sop; rw [ho]; exact ⟨rfl, by rw [hx]; rfl, ti, y, ht, by rw [hx]; simp only [cellsAt, hq]; exact hy, rfl⟩, hv⟩
        · exact hv.elim
      · exact hv.elim
    · rename_i ti cs ht hx
      split at hv
      · rename_i y hy
        exact ⟨_, _, by unfold Sop; rw [ho]; exact ⟨rfl, by rw [hx]; rfl, ti, y, ht, by rw [hx]; exact hy, rfl⟩, hv⟩
      · exact hv.elim
    · exact hv.elim
  · rename_i t x y
    unfold opStore at hv
    split at hv
    · rename_i ti nm off z ht hx hy
      split at hv
      · rename_i T0 cs zs hh hc
        obtain ⟨⟨h1, h2, h3⟩, h4⟩ := hv
        exact ⟨_, _, by unfold Sop; rw [ho]; exact ⟨ti, nm, off, T0, cs, z, zs, ht, hx, hh, hy, hc, h1, h2, h3, rfl, rfl⟩, h4⟩
      · exact hv.elim
    · exact hv.elim
  · rename_i x
    unfold opNilC at hv
    split at hv
    · rename_i cs hx
      exact ⟨_, _, by unfold Sop; rw [ho]; exact ⟨rfl, by rw [hx]; rfl, by rw [hx]⟩, hv⟩
    · rename_i nm o' hx
      exact ⟨_, _, by unfold Sop; rw [ho]; exact ⟨rfl, by rw [hx]; rfl, by rw [hx]⟩, hv⟩
    · rename_i nm o' hx
      exact ⟨_, _, by unfold Sop; rw [ho]; exact ⟨rfl, by rw [hx]; rfl, by rw [hx]⟩, hv⟩
    · exact hv.elim
  · rename_i t x f
    unfold opFieldAddr opFO at hv
    split at hv
    · rename_i off tf nm o hf hx
      split at hf
      · rename_i ti ht
        exact ⟨_, _, by unfold Sop; rw [ho]; exact ⟨rfl, ti, off, tf, ht, hf, hv.1, by rw [hx]; rfl, by rw [hx]; rfl⟩, hv.2⟩
      · cases hf
    · rename_i off tf cs hf hx
      split at hf
      · rename_i ti ht
        exact ⟨_, _, by unfold Sop; rw [ho]; exact ⟨rfl, ti, off, tf, ht, hf, hv.1, by rw [hx]; rfl, by rw [hx]; rfl⟩, hv.2⟩
      · cases hf
    · rename_i off tf nm o' hf hx
      split at hf
      · rename_i ti ht
        exact ⟨_, _, by unfold Sop; rw [ho]; exact ⟨rfl, ti, off, tf, ht, hf, hv.1, by rw [hx]; rfl, by rw [hx]; rfl⟩, hv.2⟩
      · cases hf
    · exact hv.elim
  · rename_i t x f
    unfold opField opFO at hv
    split at hv
    · rename_i off tf cs hf hx
      split at hf
      · rename_i ti ht
        split at hv
        · rename_i y hy
          exact ⟨_, _, by unfold Sop; rw [ho]; exact ⟨rfl, ti, off, tf, cs, y, ht, hf, hx, hv.1, hy, rfl⟩, hv.2⟩
        · exact hv.elim
      · cases hf
    · exact hv.elim
  · rename_i op t x y t'
    unfold opBin at hv
    split at hv
    · rename_i a b hx hy
      split at hv
      · rename_i c hc
        exact ⟨_, _, by unfold Sop; rw [ho]; exact ⟨rfl, a, b, c, hx, hy, hc, rfl⟩, hv⟩
      · exact hv.elim
    · exact hv.elim
  · rename_i op t x
    unfold opUn at hv
    split at hv
    · rename_i b hx
      exact ⟨_, _, by unfold Sop; rw [ho]; exact ⟨rfl, .inl ⟨b, rfl, hx, rfl⟩⟩, hv⟩
    · rename_i kk n hx
      exact ⟨_, _, by unfold Sop; rw [ho]; exact ⟨rfl, .inr ⟨kk, n, rfl, hx, rfl⟩⟩, hv⟩
    · exact hv.elim
  · rename_i t x i ok
    unfold opLookup at hv
    split at hv
    · rename_i ti l n ht hx hi
      split at hv
      · rename_i kt hd
        split at hv
        · rename_i te g hte hg
          exact ⟨_, _, by unfold Sop; rw [ho]; exact ⟨rfl, ti, kt, te, l, n, g, ht, hd, hte, hv.1, hx, hi, hg, rfl, rfl⟩, hv.2⟩
        · exact hv.elim
      · exact hv.elim
    · exact hv.elim
  · rename_i x i
    unfold opExtract at hv
    split at hv
    · rename_i vs hx
      split at hv
      · rename_i y hy
        exact ⟨_, _, by unfold Sop; rw [ho]; exact ⟨rfl, vs, y, hx, hy, rfl⟩, hv⟩
      · exact hv.elim
    · exact hv.elim
  · rename_i s d x
    unfold opConvert at hv
    split at hv
    · rename_i ts td kk n hs hd hx
      split at hv
      · rename_i kd hk
        exact ⟨_, _, by unfold Sop; rw [ho]; exact ⟨rfl, ts, td, hs, hd, .inl ⟨kd, n, hk, ⟨kk, hx⟩, rfl⟩⟩, hv⟩
      · exact hv.elim
    · rename_i ts td y hs hd hx
      split at hv
      · rename_i h1 h2
        exact ⟨_, _, by unfold Sop; rw [ho]; exact ⟨rfl, ts, td, hs, hd, .inr (.inl ⟨h1, h2, y, hx, rfl⟩)⟩, hv⟩
      · exact hv.elim
    · rename_i ts td n cs hs hd hx
      split at hv
      · rename_i el h1 h2
        split at hv
        · rename_i te l hte hl
          obtain ⟨⟨g1, g2, g3⟩, hv⟩ := hv
          exact ⟨_, _, by unfold Sop; rw [ho]; exact ⟨rfl, ts, td, hs, hd, .inr (.inr ⟨el, te, n, cs, l, h1, h2, hte, g1, g2, hx, g3, hl, rfl⟩)⟩, hv⟩
        · exact hv.elim
      · exact hv.elim
    · exact hv.elim
  · rename_i t parts
    unfold opBuild at hv
    split at hv
    · rename_i ti ps ht hp
      split at hv
      · rename_i cs hc
        exact ⟨_, _, by unfold Sop; rw [ho]; exact ⟨rfl, ti, ps, cs, ht, hp, hv.1, hc, rfl⟩, hv.2⟩
      · exact hv.elim
    · exact hv.elim
  · rename_i t n parts
    unfold opBuildSlice at hv
    split at hv
    · rename_i ti ps ht hp
      split at hv
      · rename_i el hd
        split at hv
        · rename_i te hte
          split at hv
          · rename_i cs hc
            obtain ⟨⟨h1, h2, h3⟩, h4⟩ := hv
            exact ⟨_, _, by unfold Sop; rw [ho]; exact ⟨rfl, ti, el, te, ps, cs, ht, hd, hte, hp, h1, h2, h3, hc, rfl⟩, h4⟩
          · exact hv.elim
        · exact hv.elim
      · exact hv.elim
    · exact hv.elim
  · rename_i t x i
    unfold opIndex at hv
    split at hv
    · rename_i ti kk n s ht hi hx
      split at hv
      · rename_i hd
        obtain ⟨⟨h0, h1⟩, hv⟩ := hv
        have hc : s[n.toNat]? = some (s[n.toNat]?.getD 0) := by
          cases hq : s[n.toNat]? with
          | none => simp at hq; omega
          | some c => rfl
        exact ⟨_, _, by unfold Sop; rw [ho]; exact ⟨rfl, ti, kk, n.toNat, ht, by rw [← nat_of h0]; exact hi, .inl ⟨s, _, hd, hx, hc, rfl⟩⟩, hv⟩
      · exact hv.elim
    · rename_i ti kk n cs ht hi hx
      split at hv
      · rename_i len el hd
        split at hv
        · rename_i te hte
          split at hv
          · rename_i y hy
            obtain ⟨⟨h0, h1, h2⟩, hv⟩ := hv
            exact ⟨_, _, by unfold Sop; rw [ho]; exact ⟨rfl, ti, kk, n.toNat, ht, by rw [← nat_of h0]; exact hi, .inr ⟨len, el, te, cs, y, hd, hte, h1, hx, h2, hy, rfl⟩⟩, hv⟩
          · exact hv.elim
        · exact hv.elim
      · exact hv.elim
    · exact hv.elim
  · rename_i t x i
    unfold opIndexAddr at hv
    split at hv
    · rename_i ti kk n ht hi
      split at hv
      · rename_i el hd
        split at hv
        · rename_i te len cs hte hx
          obtain ⟨⟨h0, h1, h2⟩, hv⟩ := hv
          exact ⟨_, _, by unfold Sop; rw [ho]; exact ⟨rfl, ti, kk, n.toNat, ht, by rw [← nat_of h0]; exact hi, .inl ⟨el, te, len, cs, hd, hte, hx, h1, h2, rfl⟩⟩, hv⟩
        · rename_i te nm hte hx
          split at hv
          · rename_i q hq
            obtain ⟨⟨h0, h1⟩, hv⟩ := hv
            exact ⟨_, _, by unfold Sop; rw [ho]; exact ⟨rfl, ti, kk, n.toNat, ht, by rw [← nat_of h0]; exact hi, .inr (.inr ⟨el, te, nm, q, hd, hte, hx, hq, h1, rfl⟩)⟩, hv⟩
          · exact hv.elim
        · exact hv.elim
      · rename_i len el hd
        split at hv
        · rename_i te nm o' hte hx
          obtain ⟨⟨h0, h1⟩, hv⟩ := hv
          exact ⟨_, _, by unfold Sop; rw [ho]; exact ⟨rfl, ti, kk, n.toNat, ht, by rw [← nat_of h0]; exact hi, .inr (.inl ⟨el, te, len, hd, hte, h1, by rw [hx]; rfl, by rw [hx]; rfl⟩)⟩, hv⟩
        · rename_i te nm o' hte hx
          obtain ⟨⟨h0, h1⟩, hv⟩ := hv
          exact ⟨_, _, by unfold Sop; rw [ho]; exact ⟨rfl, ti, kk, n.toNat, ht, by rw [← nat_of h0]; exact hi, .inr (.inl ⟨el, te, len, hd, hte, h1, by rw [hx]; rfl, by rw [hx]; rfl⟩)⟩, hv⟩
        · rename_i te cs hte hx
          obtain ⟨⟨h0, h1⟩, hv⟩ := hv
          exact ⟨_, _, by unfold Sop; rw [ho]; exact ⟨rfl, ti, kk, n.toNat, ht, by rw [← nat_of h0]; exact hi, .inr (.inl ⟨el, te, len, hd, hte, h1, by rw [hx]; rfl, by rw [hx]; rfl⟩)⟩, hv⟩
        · exact hv.elim
      · exact hv.elim
    · exact hv.elim
  · rename_i t x lo hi
    unfold opSlice at hv
    split at hv
    · rename_i ti s ht hx
      split at hv
      · rename_i hd
        split at hv
        · rename_i l m hl hm
          obtain ⟨⟨h0, h1, h2⟩, hv⟩ := hv
          exact ⟨_, _, by unfold Sop; rw [ho]; exact ⟨rfl, ti, l, m, ht, rfl, h0, h1, .inl ⟨s, hd, hx, hl, hm, h2, rfl⟩⟩, hv⟩
        · exact hv.elim
      · exact hv.elim
    · rename_i ti len cs ht hx
      split at hv
      · rename_i el hd
        split at hv
        · rename_i te l m hte hl hm
          obtain ⟨⟨h0, h1, h2⟩, hv⟩ := hv
          exact ⟨_, _, by unfold Sop; rw [ho]; exact ⟨rfl, ti, l, m, ht, rfl, h0, h1, .inr (.inl ⟨el, te, len, cs, hd, hte, hx, hl, hm, h2, rfl⟩)⟩, hv⟩
        · exact hv.elim
      · exact hv.elim
    · rename_i ti cs ht hx
      split at hv
      · rename_i len el hd
        split at hv
        · rename_i te l m hte hl hm
          obtain ⟨⟨h0, h1, h2⟩, hv⟩ := hv
          exact ⟨_, _, by unfold Sop; rw [ho]; exact ⟨rfl, ti, l, m, ht, rfl, h0, h1, .inr (.inr ⟨el, te, len, cs, hd, hte, hx, hl, hm, h2, rfl⟩)⟩, hv⟩
        · exact hv.elim
      · exact hv.elim
    · exact hv.elim
  · rename_i f fs cs
    unfold opFunc at hv
    split at hv
    · rename_i fs' cs' h1 h2
      exact ⟨_, _, by unfold Sop; rw [ho]; exact ⟨rfl, fs', cs', h1, h2, rfl⟩, hv⟩
    · exact hv.elim
  · rename_i x t l
    unfold opLen at hv
    split at hv
    · rename_i ti s ht hx
      split at hv
      · rename_i hd
        exact ⟨_, _, by unfold Sop; rw [ho]; exact ⟨rfl, t, x, ti, rfl, rfl, ht, .inl ⟨s, hd, hx, rfl⟩⟩, hv⟩
      · exact hv.elim
    · rename_i ti n cs ht hx
      split at hv
      · rename_i el hd
        exact ⟨_, _, by unfold Sop; rw [ho]; exact ⟨rfl, t, x, ti, rfl, rfl, ht, .inr (.inl ⟨n, cs, el, hd, hx, rfl⟩)⟩, hv⟩
      · exact hv.elim
    · rename_i ti nm ht hx
      split at hv
      · rename_i el q hd hq
        exact ⟨_, _, by unfold Sop; rw [ho]; exact ⟨rfl, t, x, ti, rfl, rfl, ht, .inr (.inr ⟨nm, q, el, hd, hx, hq, rfl⟩)⟩, hv⟩
      · exact hv.elim
    · exact hv.elim
  · rename_i x y ts
    unfold opMax at hv
    split at hv
    · rename_i ka a kb b hx hy
      obtain ⟨rfl, hv⟩ := hv
      exact ⟨_, _, by unfold Sop; rw [ho]; exact ⟨rfl, x, y, ka, a, b, rfl, hx, hy, rfl⟩, hv⟩
    · exact hv.elim
  · rename_i x y ts
    unfold opMin at hv
    split at hv
    · rename_i ka a kb b hx hy
      obtain ⟨rfl, hv⟩ := hv
      exact ⟨_, _, by unfold Sop; rw [ho]; exact ⟨rfl, x, y, ka, a, b, rfl, hx, hy, rfl⟩, hv⟩
    · exact hv.elim
  · rename_i f args ts
    unfold opCall at hv
    split at hv
    · rename_i g fs cs ags h1 h2
      obtain ⟨y, h3, hv⟩ := hv
      exact ⟨_, _, by unfold Sop; rw [ho]; exact ⟨rfl, g, fs, cs, ags, y, h1, h2, h3, rfl⟩, hv⟩
    · exact hv.elim
  · rename_i t l c
    unfold opMake at hv
    split at hv
    · rename_i ti k1 n k2 m ht hl hc
      split at hv
      · rename_i el hd
        unfold opMakeK at hv
        split at hv
        · rename_i te hte
          obtain ⟨⟨rfl, h1, h2, h3⟩, hv⟩ := hv
          exact ⟨_, _, by unfold Sop; rw [ho]; exact ⟨rfl, ti, el, te, k1, k2, n, ht, hd, hte, hl, hc, h1, h2, h3, rfl⟩, hv⟩
        · exact hv.elim
      · exact hv.elim
    · exact hv.elim
  · rename_i s x t t'
    unfold opApp at hv
    split at hv
    · rename_i ti n cs m news htt ht hs hx
      have htt := Nat.eq_of_beq_eq_true htt
      subst htt
      split at hv
      · rename_i el hd
        unfold opAppK at hv
        split at hv
        · rename_i te hte
          obtain ⟨⟨h1, h2, h3, h4, h5, h6⟩, hv⟩ := hv
          exact ⟨_, _, by unfold Sop; rw [ho]; exact ⟨rfl, s, x, t, ti, el, te, n, m, cs, news, rfl, rfl, ht, hd, hte, hs, hx, h1, h2, h3, h4, h5, h6, rfl⟩, hv⟩
        · exact hv.elim
      · exact hv.elim
    · exact hv.elim
  · exact hv.elim
end
end Go.Sx
