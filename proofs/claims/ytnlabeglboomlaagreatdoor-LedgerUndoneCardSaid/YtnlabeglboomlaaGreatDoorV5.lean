/- A part of a proof; the last text of this claim says of what. -/
import Derived.Test.YtnlabeglboomlaaGreatDoorV4
import Derived.Shelf.Abstract
set_option linter.unusedVariables false
set_option linter.unusedSimpArgs false
set_option linter.unusedSectionVars false
namespace Go.Sx
open Go Go.RowKit Go.Shelf
inductive TD where
  | int (k : IntKind) | bool | string | func
  | slice (e : TypeId) | array (n : Nat) (e : TypeId) | struct (fs : List (Nat × TypeId)) | map (k : TypeId) | other
  deriving DecidableEq
inductive EK where
  | int (k : IntKind) | bool | string
structure TI where
  size : Nat
  agg : Bool
  d : TD
  zero : List PV
  eqs : List EK := []
  bytes : Nat := 0
def EK.has : EK → Value → Bool
  | .int k, .int k' _ => k == k'
  | .bool, .bool _ => true
  | .string, .string _ => true
  | _, _ => false
def hasAll : List EK → List Value → Bool
  | [], [] => true
  | k :: ks, v :: vs => k.has v && hasAll ks vs
  | _, _ => false
def valEq : Value → Value → Bool
  | .int _ a, .int _ b => a == b
  | .bool a, .bool b => a == b
  | .string a, .string b => a == b
  | _, _ => false
def eqAll : List Value → List Value → Bool
  | [], [] => true
  | a :: l, b :: m => valEq a b && eqAll l m
  | _, _ => false
def EqOk (P : Program) (t : TypeId) (ks : List EK) : Prop := ∀ (xs ys : List Value) (w : World), hasAll ks xs = true → hasAll ks ys = true →
  (∀ x y, (eqGuard .eql t x y (.agg ⟨xs⟩) (.agg ⟨ys⟩)).run P w = .ok () w ∧ (eqGuard .neq t x y (.agg ⟨xs⟩) (.agg ⟨ys⟩)).run P w = .ok () w) ∧ (Op.equal t (.agg ⟨xs⟩) (.agg ⟨ys⟩)).run P w = .ok (eqAll xs ys) w
def isAggD : TypeDesc → Bool
  | .struct _ | .array _ _ => true
  | _ => false
def tdB : TypeDesc → TD → Bool
  | .int k, .int k' => k == k'
  | .bool, .bool => true
  | .string, .string => true
  | .func _ _ _, .func => true
  | .slice e, .slice e' => e == e'
  | .array n e, .array n' e' => n == n' && e == e'
  | .struct fs, .struct gs => (fs.toList.map fun f => (f.offset, f.type)) == gs
  | .map k _, .map k' => k == k'
  | _, .other => true
  | _, _ => false
def zB : Value → PV → Bool
  | .int k n, .val (.int k' n') => k == k' && n == n'
  | .bool b, .val (.bool b') => b == b'
  | .string s, .val (.string s') => s.data.toList == s'.data.toList
  | .slice none 0 0, .sl 0 [] => true
  | .nilFunc, .val .nilFunc => true
  | .nilIface, .val .nilIface => true
  | .pointer none, .val (.pointer none) => true
  | .map none, .val (.map none) => true
  | _, _ => false
def zsB : List Value → List PV → Bool
  | [], [] => true
  | v :: vs, p :: ps => zB v p && zsB vs ps
  | _, _ => false
def tiB (P : Program) (t : TypeId) (ti : TI) : Bool :=
  match P.info? t, P.underlying t with
  | some i, some d => i.size == ti.size && i.bytes == ti.bytes && ti.zero.length == ti.size && tdB d ti.d && (match i.zero with | some z => zsB z.cells.toList ti.zero | none => false) && ti.agg == isAggD d
  | _, _ => false
structure TiOk (P : Program) (t : TypeId) (ti : TI) : Prop where
  info : ∃ i z, P.info? t = some i ∧ i.size = ti.size ∧ i.zero = some z ∧ ∀ B w, RepL B w ti.zero z.cells.toList
  bytes : ∃ i, P.info? t = some i ∧ i.bytes = ti.bytes
  zlen : ti.zero.length = ti.size
  desc : ∃ d, P.underlying t = some d ∧ tdB d ti.d = true ∧ ti.agg = isAggD d
theorem bytes_ext {s s' : ByteArray} (h : s.data.toList = s'.data.toList) : s = s' := by
  cases s; cases s'; congr; exact Array.toList_inj.1 h
theorem zB_rep {v : Value} {p : PV} (h : zB v p = true) (B : Nat → Prop) (w : World) : RepP B w p v := by
  unfold zB at h
  split at h
  · simp only [Bool.and_eq_true, beq_iff_eq] at h; simp only [RepP]; rw [h.2]; congr 1; revert h; rename_i k n k' n'; cases k <;> cases k' <;> intro h <;> first | rfl | (exact absurd h.1 (by decide))
  · simp only [beq_iff_eq] at h; simp only [RepP]; rw [h]
  · simp only [beq_iff_eq] at h; simp only [RepP]; rw [bytes_ext h]
  · simp only [RepP]; exact ⟨none, 0, rfl, Nat.le_refl _, by simp, by simp⟩
  · simp only [RepP]
  · simp only [RepP]
  · simp only [RepP]
  · simp only [RepP]
  · cases h
theorem zsB_rep : ∀ {vs : List Value} {ps : List PV}, zsB vs ps = true → ∀ (B : Nat → Prop) (w : World), RepL B w ps vs
  | [], [], _, _, _ => by simp [RepL]
  | v :: vs, p :: ps, h, B, w => by
    simp only [zsB, Bool.and_eq_true] at h
    simp only [RepL]
    exact ⟨v, vs, rfl, zB_rep h.1 B w, zsB_rep h.2 B w⟩
  | [], _ :: _, h, _, _ => by simp [zsB] at h
  | _ :: _, [], h, _, _ => by simp [zsB] at h
theorem tiOk_of {P : Program} {t : TypeId} {ti : TI} (h : tiB P t ti = true) : TiOk P t ti := by
  unfold tiB at h
  split at h
  · rename_i i d hi hd
    simp only [Bool.and_eq_true, beq_iff_eq] at h
    obtain ⟨⟨⟨⟨⟨h1, hb⟩, hl⟩, h2⟩, h3⟩, h4⟩ := h
    split at h3
    · rename_i z hz
      exact ⟨⟨i, z, hi, h1, hz, fun B w => zsB_rep h3 B w⟩, ⟨i, hi, hb⟩, hl, d, hd, h2, h4⟩
    · cases h3
  · cases h
abbrev Tab := TypeId → Option TI
structure TOk (P : Program) (T : Tab) : Prop where
  ok : ∀ t ti, T t = some ti → TiOk P t ti
  eq : ∀ t ti, T t = some ti → ti.eqs ≠ [] → EqOk P t ti.eqs
def tabOf (l : List (TypeId × TI)) : Tab := fun t => (l.find? (fun x => x.1 == t)).map (·.2)
theorem tabOf_ok {P : Program} {l : List (TypeId × TI)} (h : (l.all fun x => tiB P x.1 x.2) = true) : ∀ t ti, tabOf l t = some ti → TiOk P t ti := by
  intro t ti ht
  unfold tabOf at ht
  obtain ⟨x, hx, rfl⟩ := Option.map_eq_some_iff.1 ht
  have h1 := List.find?_some hx
  have h2 := List.mem_of_find?_eq_some hx
  have h3 := List.all_eq_true.1 h x h2
  rw [beq_iff_eq] at h1
  subst h1
  exact tiOk_of h3
def nzC : Value → PV
  | .slice none 0 0 => .sl 0 []
  | v => .val v
def evO (e : Env) : Operand → SV
  | .tmp t => e t
  | .const v => .p (nzC v)
  | .func f => .p (.clo f [] [])
  | .global _ => .any
def leafP : PV → Bool
  | .val (.agg _) | .val (.tuple _) | .agg _ | .tup _ | .mp _ | .unk => false
  | _ => true
def cellsP : PV → Option (List PV)
  | .agg cs => some cs
  | .tup _ | .mp _ | .unk => none
  | .val (.agg _) | .val (.tuple _) => none
  | x => some [x]
def cellsAt (ρ : Rws) (h : Hp) : SV → List PV
  | .box nm off => match h nm with | some (_, cs) => cs.drop off | none => []
  | .rowp nm off => match ρ nm with | some q => q.cs.drop off | none => []
  | .p (.ptr cs) => cs
  | _ => []
def loadP (ti : TI) (cs : List PV) : Option PV :=
  if ti.agg then (if ti.size ≤ cs.length then some (.agg (cs.take ti.size)) else none) else cs.head?
def shiftS (n : Nat) : SV → SV
  | .box nm off => .box nm (off + n)
  | .rowp nm off => .rowp nm (off + n)
  | .p (.ptr cs) => .p (.ptr (cs.drop n))
  | _ => .any
def mpGet : List (Int × FuncId) → Int → Option FuncId
  | [], _ => none
  | x :: l, n => if n = x.1 then some x.2 else mpGet l n
def evP (e : Env) (x : Operand) : Option PV := match evO e x with | .p y => some y | _ => none
def evPs (e : Env) : List Operand → Option (List PV)
  | [] => some []
  | x :: xs => match evO e x, evPs e xs with | .p y, some ys => some (y :: ys) | _, _ => none
def binI (op : BinOp) (k : IntKind) (x y : Int) : Option Value :=
  match op with
  | .add => some (.int k (k.wrap (x + y)))
  | .sub => some (.int k (k.wrap (x - y)))
  | .mul => some (.int k (k.wrap (x * y)))
  | .quo => if y = 0 then none else some (.int k (k.wrap (x.tdiv y)))
  | .rem => if y = 0 then none else some (.int k (x.tmod y))
  | .eql => some (.bool (x == y))
  | .neq => some (.bool (x != y))
  | .lss => some (.bool (decide (x < y)))
  | .leq => some (.bool (decide (x ≤ y)))
  | .gtr => some (.bool (decide (x > y)))
  | .geq => some (.bool (decide (x ≥ y)))
  | _ => none
def binB (op : BinOp) (x y : ByteArray) : Option Value :=
  match op with
  | .add => if x.size + y.size < 9223372036854775808 then some (.string (x ++ y)) else none
  | .eql => some (.bool (x.toList == y.toList))
  | .neq => some (.bool (!(x.toList == y.toList)))
  | _ => none
def valsOf : List PV → Option (List Value)
  | [] => some []
  | .val v :: ps => (valsOf ps).map (v :: ·)
  | _ => none
def binS (T : Tab) (op : BinOp) (t : TypeId) : PV → PV → Option Value
  | .val (.int k x), .val (.int k' y) => if k = k' then binI op k x y else none
  | .val (.string x), .val (.string y) => binB op x y
  | .val (.bool x), .val (.bool y) =>
    match T t with
    | some ti => (match ti.d with
      | .bool => (match op with | .eql => some (.bool (x == y)) | .neq => some (.bool (!(x == y))) | _ => none)
      | _ => none)
    | none => none
  | .agg xs, .agg ys =>
    match T t, valsOf xs, valsOf ys with
    | some ti, some us, some vs =>
      if ti.eqs.isEmpty then none else if hasAll ti.eqs us && hasAll ti.eqs vs then (match op with | .eql => some (.bool (eqAll us vs)) | .neq => some (.bool (!eqAll us vs)) | _ => none) else none
    | _, _, _ => none
  | _, _ => none
end Go.Sx
