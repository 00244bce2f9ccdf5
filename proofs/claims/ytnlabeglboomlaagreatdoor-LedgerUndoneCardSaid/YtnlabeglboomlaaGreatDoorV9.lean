/- A part of a proof; the last text of this claim says of what. -/
import Derived.Test.YtnlabeglboomlaaGreatDoorV8
import Derived.Laws.BytesArg
import Derived.Laws.Slices
set_option linter.unusedVariables false
set_option linter.unusedSimpArgs false
set_option linter.unusedSectionVars false
namespace Go.Sx
open Go Go.RowKit Go.Shelf Go.Proofs
section
variable {P : Program} {G : World → Prop} {T : Tab} {ζ : Fr} {N : Nat} {own own' : Nat → Nat} {e : Env} {h h' : Hp} {a : Act} {w w' : World} {o : Oper} {v : SV}
theorem TiOk.desc_eq {t : TypeId} {ti : TI} (k : TiOk P t ti) : ∃ d, P.underlying t = some d ∧ (∀ W, (underlying t).run P W = .ok d W) ∧ tdB d ti.d = true := by
  obtain ⟨d, h1, h2, h3⟩ := k.desc
  exact ⟨d, h1, fun W => by simp [underlying, h1], h2⟩
theorem under_string {t : TypeId} {ti : TI} (k : TiOk P t ti) (hd : ti.d = .string) : P.underlying t = some .string := by
  obtain ⟨d, h1, _, h2⟩ := k.desc_eq
  rw [hd] at h2; cases d <;> simp [tdB] at h2; exact h1
theorem under_bool {t : TypeId} {ti : TI} (k : TiOk P t ti) (hd : ti.d = .bool) : P.underlying t = some .bool := by
  obtain ⟨d, h1, _, h2⟩ := k.desc_eq
  rw [hd] at h2; cases d <;> simp [tdB] at h2; exact h1
theorem under_int {t : TypeId} {ti : TI} {kk : IntKind} (k : TiOk P t ti) (hd : ti.d = .int kk) : P.underlying t = some (.int kk) := by
  obtain ⟨d, h1, _, h2⟩ := k.desc_eq
  rw [hd] at h2; cases d <;> simp [tdB] at h2; rw [h1, h2]
theorem under_slice {t el : TypeId} {ti : TI} (k : TiOk P t ti) (hd : ti.d = .slice el) : P.underlying t = some (.slice el) := by
  obtain ⟨d, h1, _, h2⟩ := k.desc_eq
  rw [hd] at h2; cases d <;> simp [tdB] at h2; rw [h1, h2]
theorem under_array {t el : TypeId} {n : Nat} {ti : TI} (k : TiOk P t ti) (hd : ti.d = .array n el) : P.underlying t = some (.array n el) := by
  obtain ⟨d, h1, _, h2⟩ := k.desc_eq
  rw [hd] at h2; cases d <;> simp [tdB] at h2; rw [h1, h2.1, h2.2]
theorem run_under_of {t : TypeId} {d : TypeDesc} (h : P.underlying t = some d) (W : World) : (underlying t).run P W = .ok d W := by simp [underlying, h]
theorem ev_int (r : R ζ N own e h a w) {x : Operand} {k : IntKind} {n : Int} (hx : evO e x = .p (.val (.int k n))) : (asIntOf (a.eval x)).run P w = .ok (k, n) w := by
  rw [ev_val r hx]; rfl
theorem bytesP_vals {B : Nat → Prop} : ∀ {cs : List PV} {l : List UInt8} {vs : List Value}, bytesP cs = some l → RepL B w cs vs → ∃ xs : List Int, vs = xs.map (Value.int .u8) ∧ xs.map (fun n => UInt8.ofNat n.toNat) = l
  | [], l, vs, hb, hr => by
    simp only [bytesP, Option.some.injEq] at hb
    simp only [RepL] at hr
    subst hb; subst hr
    exact ⟨[], rfl, rfl⟩
  | c :: cs, l, vs, hb, hr => by
    simp only [RepL] at hr
    obtain ⟨x, xs, rfl, h1, h2⟩ := hr
    unfold bytesP at hb
    split at hb
    · simp at *
    · rename_i n r hc
      cases hc
      split at hb
      · rename_i l' hl
        cases hb
        obtain ⟨ns, e1, e2⟩ := bytesP_vals hl h2
        simp only [RepP] at h1
        exact ⟨n :: ns, by rw [h1, e1]; rfl, by simp [e2]⟩
      · cases hb
    · cases hb
theorem goes_convert (tk : TOk P T) (r : R ζ N own e h a w) (s d : TypeId) (x : Operand) (ho : o.op = .convert s d x) {ts td : TI} (hs : T s = some ts) (hd : T d = some td)
    (hc : (∃ k n, td.d = .int k ∧ (∃ k', evO e x = .p (.val (.int k' n))) ∧ v = .p (.val (.int k (k.wrap n)))) ∨ (td.d = .string ∧ ts.d = .string ∧ (∃ y, evO e x = .p (.val (.string y)) ∧ v = .p (.val (.string y)))) ∨
      (∃ el te n cs l, td.d = .string ∧ ts.d = .slice el ∧ T el = some te ∧ te.d = .int .u8 ∧ te.size = 1 ∧ evO e x = .p (.sl n cs) ∧ cs.length = n ∧ bytesP cs = some l ∧ v = .p (.val (.string ⟨l.toArray⟩)))) : Goes P T ζ N e h a w o v := by
  obtain ⟨ds, h1, h2, _⟩ := (tk.ok s ts hs).desc_eq
  rcases hc with ⟨k, n, hk, ⟨k', hx⟩, rfl⟩ | ⟨hk, hk2, y, hx, rfl⟩ | ⟨el, te, n, cs, l, hk, hk2, hte, hu8, _, hx, hlen, hb, rfl⟩
  · have e1 := ev_val r hx
    have e2 := run_under_of (under_int (tk.ok d td hd) hk) w
    refine Goes.same r (x := .int k (k.wrap n)) ?_ (by show RepP _ _ _ _; simp only [RepP])
    simp [execOp, ho, e1, convert, h2, e2, Conv.intToInt]
  · have e1 := ev_val r hx
    have e2 := run_under_of (under_string (tk.ok d td hd) hk) w
    have e3 := run_under_of (under_string (tk.ok s ts hs) hk2) w
    refine Goes.same r (x := .string y) ?_ (by show RepP _ _ _ _; simp only [RepP])
    simp [execOp, ho, e1, convert, e3, e2]
  · have hv := ev_p r hx
    simp only [RepP] at hv
    obtain ⟨ad, c, e1, _, h0, hr⟩ := hv
    have k1 := under_slice (tk.ok s ts hs) hk2
    have k2 := under_int (tk.ok el te hte) hu8
    have k3 := under_string (tk.ok d td hd) hk
    refine Goes.same r (x := .string ⟨l.toArray⟩) ?_ (by show RepP _ _ _ _; simp only [RepP])
    suffices hcv : (convert s d (.slice ad n c)).run P w = .ok (.string ⟨l.toArray⟩) w by
      simp only [execOp, ho, Sem.run_bind, Sem.run_pure, e1]
      rw [hcv]; rfl
    have hz : ∀ (hcs : cs = []), (convert s d (.slice ad n c)).run P w = .ok (.string ⟨l.toArray⟩) w := by
      intro hcs
      subst hcs
      simp only [List.length_nil] at hlen
      subst hlen
      simp only [bytesP, Option.some.injEq] at hb
      subst hb
      rw [run_convert_bytes_string w s d el ad 0 c k1 k2 k3]
      cases ad with
      | none => simp [Conv.bytesToString]; rfl
      | some a0 =>
        rw [run_bytesToString w a0 0 c [] (by simp [loadCells, loadCellsFrom])]
        rfl
    rcases hr with hr | ⟨b, of, e2, hb', hr⟩
    · exact hz hr
    · obtain ⟨vs, g1, g2⟩ := hr.vals
      obtain ⟨xs, g3, g4⟩ := bytesP_vals hb g1
      have hxl : xs.length = n := by
        have := g1.length
        rw [g3, List.length_map] at this
        omega
      rw [e2, run_convert_bytes_arg w s el k1 k2 b of n c xs hxl ?_ d k3]
      · simp [strOfNums, g4]
      · intro i hi
        refine g2 i _ ?_
        rw [g3, List.getElem?_map, List.getElem?_eq_getElem (by omega)]
        simp [List.getD, List.getElem?_eq_getElem (show i < xs.length by omega)]
theorem goes_index (tk : TOk P T) (r : R ζ N own e h a w) (t : TypeId) (x i : Operand) (ho : o.op = .index t x i) {ti : TI} {k : IntKind} {n : Nat} (ht : T t = some ti) (hi : evO e i = .p (.val (.int k (n : Nat))))
    (hc : (∃ s c, ti.d = .string ∧ evO e x = .p (.val (.string s)) ∧ s[n]? = some c ∧ v = .p (.val (.int .u8 (c.toNat : Int)))) ∨
       (∃ len el te cs y, ti.d = .array len el ∧ T el = some te ∧ n < len ∧ evO e x = .p (.agg cs) ∧ n * te.size + te.size ≤ cs.length ∧ loadP te (cs.drop (n * te.size)) = some y ∧ v = .p y)) : Goes P T ζ N e h a w o v := by
  have e0 := ev_val r hi
  rcases hc with ⟨s, c, hd, hx, hs, rfl⟩ | ⟨len, el, te, cs, y, hd, hte, hn, hx, hfit, hl, rfl⟩
  · have e1 := ev_val r hx
    have e2 := run_under_of (under_string (tk.ok t ti ht) hd) w
    refine Goes.same r (x := .int .u8 (c.toNat : Int)) ?_ (by show RepP _ _ _ _; simp only [RepP])
    simp [execOp, ho, e0, e1, Instr.index, asIntOf, e2, hs]
  · have hv := ev_p r hx
    simp only [RepP] at hv
    obtain ⟨vs, e1, hr⟩ := hv
    have e2 := run_under_of (under_array (tk.ok t ti ht) hd) w
    obtain ⟨z, h5, h6⟩ := part_run (P := P) (w := w) (tk.ok _ _ hte) hr hfit hl
    refine Goes.same r (x := z) ?_ h6
    simp [execOp, ho, e0, e1, Instr.index, asIntOf, e2, hn, (tk.ok _ _ hte).run_size, h5]
theorem goes_indexAddr (tk : TOk P T) (r : R ζ N own e h a w) (t : TypeId) (x i : Operand) (ho : o.op = .indexAddr t x i) {ti : TI} {k : IntKind} {n : Nat} (ht : T t = some ti) (hi : evO e i = .p (.val (.int k (n : Nat))))
    (hc : (∃ el te len cs, ti.d = .slice el ∧ T el = some te ∧ evO e x = .p (.sl len cs) ∧ n < len ∧ n * te.size < cs.length ∧ v = .p (.ptr (cs.drop (n * te.size)))) ∨
       (∃ el te len, ti.d = .array len el ∧ T el = some te ∧ n < len ∧ isPtr (evO e x) = true ∧ v = shiftS (n * te.size) (evO e x)) ∨
       (∃ el te nm q, ti.d = .slice el ∧ T el = some te ∧ evO e x = .orow nm ∧ ζ.ρ nm = some q ∧ n < q.n ∧ v = .rowp nm (n * te.size))) : Goes P T ζ N e h a w o v := by
  have e0 := ev_val r hi
  rcases hc with ⟨el, te, len, cs, hd, hte, hx, hn, hcs, rfl⟩ | ⟨el, te, len, hd, hte, hn, hp, rfl⟩ | ⟨el, te, nm, q, hd, hte, hx, hq, hn, rfl⟩
  · have hv := ev_p r hx
    simp only [RepP] at hv
    obtain ⟨ad, c, e1, hc, h0, hr⟩ := hv
    have e2 := run_under_of (under_slice (tk.ok t ti ht) hd) w
    rcases hr with hr | ⟨b, of, rfl, hb, hr⟩
    · subst hr; simp at hcs
    · refine Goes.same r (x := .pointer (some ⟨b, of + n * te.size, none⟩)) ?_ (by show RepP _ _ _ _; simp only [RepP]; exact ⟨b, _, rfl, hb, hr.drop _⟩)
      simp [execOp, ho, e0, e1, Instr.indexAt, asIntOf, e2, hn, (tk.ok _ _ hte).run_size, add_plain']
  · have e2 := run_under_of (under_array (tk.ok t ti ht) hd) w
    have hrun : ∀ b of, (Instr.indexAt t (.pointer (some ⟨b, of, none⟩)) (.int k (n : Nat))).run P w = .ok (.pointer (some ⟨b, of + n * te.size, none⟩)) w := by
      intro b of
      simp [Instr.indexAt, asIntOf, e2, Instr.sureAddr, hn, (tk.ok _ _ hte).run_size, add_plain']
    obtain ⟨b, of, e1, hv⟩ := shift_sound r hp (n * te.size)
    exact Goes.same r (x := .pointer (some ⟨b, of + n * te.size, none⟩)) (by simp [execOp, ho, e0, e1, hrun]) hv
  · obtain ⟨hne, e1⟩ := ev_orow r hx
    obtain ⟨vs, g1, g2, _⟩ := r.row nm q hq
    have e2 := run_under_of (under_slice (tk.ok t ti ht) hd) w
    rcases g1.2 with ⟨_, h0⟩ | ⟨g, cap, cur, hv, _, _, h3, _⟩
    · omega
    · rw [hv] at e1
      refine Goes.same r (x := .pointer (some ⟨g, 0 + n * te.size, none⟩)) ?_ ⟨hne, g, by rw [hv]; rfl, by rw [Nat.zero_add]⟩
      simp [execOp, ho, e0, e1, Instr.indexAt, asIntOf, e2, hn, (tk.ok _ _ hte).run_size, add_plain']
theorem bnd_run (r : R ζ N own e h a w) {x : Option Operand} {d l : Int} (hb : bndP e x d = some l) : (x = none ∧ l = d) ∨ ∃ y k, x = some y ∧ a.eval y = .int k l := by
  unfold bndP at hb
  split at hb
  · cases hb; exact .inl ⟨rfl, rfl⟩
  · rename_i y
    split at hb
    · rename_i k n hy
      cases hb
      exact .inr ⟨y, k, rfl, ev_val r hy⟩
    · cases hb
theorem bounds_run (r : R ζ N own e h a w) {lo hi : Option Operand} {len cap : Nat} {l m : Int} (hl : bndP e lo 0 = some l) (hm : bndP e hi (len : Nat) = some m) (h0 : 0 ≤ l) (h1 : l ≤ m) (h2 : m ≤ (len : Nat)) (hc : len ≤ cap) (b : Bool) :
    (Instr.sliceBounds b len cap (lo.map a.eval) (hi.map a.eval) none).run P w = .ok (l.toNat, m.toNat, cap) w := by
  have em : (m.toNat : Int) = m := Int.toNat_of_nonneg (by omega)
  have hmc : m ≤ (cap : Int) := by omega
  have hm0 : 0 ≤ m := by omega
  rcases bnd_run r hl with ⟨rfl, rfl⟩ | ⟨y, k, rfl, hy⟩
  · rcases bnd_run r hm with ⟨rfl, rfl⟩ | ⟨z, k', rfl, hz⟩
    · simp [Instr.sliceBounds]
    · simp [Instr.sliceBounds, hz, run_sliceBound w k' m cap _ hm0 hmc]
  · rcases bnd_run r hm with ⟨rfl, rfl⟩ | ⟨z, k', rfl, hz⟩
    · simp [Instr.sliceBounds, hy, run_sliceBound w k l len _ h0 h1]
    · simp [Instr.sliceBounds, hy, hz, run_sliceBound w k' m cap _ hm0 hmc, run_sliceBound w k l m.toNat _ h0 (by omega)]
theorem goes_slice (tk : TOk P T) (r : R ζ N own e h a w) (t : TypeId) (x : Operand) (lo hi : Option Operand) (ho : o.op = .slice t x lo hi none) {ti : TI} {l m : Int} (ht : T t = some ti) (h0 : 0 ≤ l) (h1 : l ≤ m)
    (hc : (∃ s : ByteArray, ti.d = .string ∧ evO e x = .p (.val (.string s)) ∧ bndP e lo 0 = some l ∧ bndP e hi (s.size : Nat) = some m ∧ m ≤ (s.size : Nat) ∧ v = .p (.val (.string (s.extract l.toNat m.toNat)))) ∨
       (∃ el te len cs, ti.d = .slice el ∧ T el = some te ∧ evO e x = .p (.sl len cs) ∧ bndP e lo 0 = some l ∧ bndP e hi (len : Nat) = some m ∧ m ≤ (len : Nat) ∧ v = .p (.sl (m.toNat - l.toNat) ((cs.take (m.toNat * te.size)).drop (l.toNat * te.size)))) ∨
       (∃ el te len cs, ti.d = .array len el ∧ T el = some te ∧ evO e x = .p (.ptr cs) ∧ bndP e lo 0 = some l ∧ bndP e hi (len : Nat) = some m ∧ m ≤ (len : Nat) ∧ v = .p (.sl (m.toNat - l.toNat) ((cs.take (m.toNat * te.size)).drop (l.toNat * te.size))))) : Goes P T ζ N e h a w o v := by
  rcases hc with ⟨s, hd, hx, hl, hm, h2, rfl⟩ | ⟨el, te, len, cs, hd, hte, hx, hl, hm, h2, rfl⟩ | ⟨el, te, len, cs, hd, hte, hx, hl, hm, h2, rfl⟩
  · have e1 := ev_val r hx
    have e2 := run_under_of (under_string (tk.ok t ti ht) hd) w
    refine Goes.same r (x := .string (s.extract l.toNat m.toNat)) ?_ (by show RepP _ _ _ _; simp only [RepP])
    have hb := bounds_run (P := P) r hl hm h0 h1 h2 (Nat.le_refl _) false
    simp [execOp, ho, e1, Instr.sliceAt, Instr.slice, e2, hb]
  · have hv := ev_p r hx
    simp only [RepP] at hv
    obtain ⟨ad, c, e1, hlc, hn0, hr⟩ := hv
    have e2 := run_under_of (under_slice (tk.ok t ti ht) hd) w
    have hb := bounds_run (P := P) r hl hm h0 h1 h2 hlc true
    have hml : m.toNat ≤ len := by omega
    have hlm : l.toNat ≤ m.toNat := by omega
    refine Goes.same r (x := .slice (if c = l.toNat then ad else ad.map (·.add (l.toNat * te.size))) (m.toNat - l.toNat) (c - l.toNat)) ?_ ?_
    · simp [execOp, ho, e1, Instr.sliceAt, Instr.slice, e2, hb, (tk.ok _ _ hte).run_size]
    · show RepP _ _ _ _
      simp only [RepP]
      refine ⟨_, _, rfl, by omega, ?_, ?_⟩
      · rcases hn0 with hn0 | hn0
        · exact .inl (by omega)
        · refine .inr ?_
          split
          · exact hn0
          · cases ad with
            | none => exact absurd rfl hn0
            | some a0 => simp
      · rcases hr with hr | ⟨b, of, rfl, hb, hr⟩
        · subst hr; exact .inl (by simp)
        · by_cases hcl : c = l.toNat
          · left
            have : m.toNat * te.size ≤ l.toNat * te.size := Nat.mul_le_mul_right _ (by omega)
            apply List.drop_eq_nil_of_le
            rw [List.length_take]
            omega
          · refine .inr ⟨b, of + l.toNat * te.size, ?_, hb, (hr.take _).drop _⟩
            rw [if_neg hcl]
            simp [add_plain']
  · have hv := ev_p r hx
    simp only [RepP] at hv
    obtain ⟨b, of, e1, hB, hr⟩ := hv
    have e2 := run_under_of (under_array (tk.ok t ti ht) hd) w
    have hb := bounds_run (P := P) r hl hm h0 h1 h2 (Nat.le_refl _) false
    have hml : m.toNat ≤ len := by omega
    have hlm : l.toNat ≤ m.toNat := by omega
    refine Goes.same r (x := .slice (some (if len = l.toNat then ⟨b, of, none⟩ else ⟨b, of + l.toNat * te.size, none⟩)) (m.toNat - l.toNat) (len - l.toNat)) ?_ ?_
    · simp [execOp, ho, e1, Instr.sliceAt, e2, hb, (tk.ok _ _ hte).run_size, Instr.sureAddr, add_plain']
    · show RepP _ _ _ _
      simp only [RepP]
      refine ⟨_, _, rfl, by omega, .inr (by simp), ?_⟩
      by_cases hcl : len = l.toNat
      · left
        have : m.toNat * te.size ≤ l.toNat * te.size := Nat.mul_le_mul_right _ (by omega)
        apply List.drop_eq_nil_of_le
        rw [List.length_take]
        omega
      · refine .inr ⟨b, of + l.toNat * te.size, ?_, hB, (hr.take _).drop _⟩
        rw [if_neg hcl]
theorem equalIn_bool (d : Nat) (t : TypeId) (m n : Bool) (h : P.underlying t = some .bool) (W : World) : (Op.equalIn (d + 1) t (.bool m) (.bool n)).run P W = .ok (m == n) W := by
  simp [Op.equalIn, underlying, h]
theorem equal_bool (t : TypeId) (m n : Bool) (h : P.underlying t = some .bool) (W : World) : (Op.equal t (.bool m) (.bool n)).run P W = .ok (m == n) W := equalIn_bool 9999 t m n h W
set_option maxHeartbeats 1000000 in
theorem goes_binop (tk : TOk P T) (r : R ζ N own e h a w) (op : BinOp) (t t' : TypeId) (x y : Operand) (ho : o.op = .binOp op t x y t') {p q : PV} {c : Value} (hx : evO e x = .p p) (hy : evO e y = .p q) (hb : binS T op t p q = some c) : Goes P T ζ N e h a w o (.p (.val c)) := by
  suffices hs : (do eqGuard op t x y (a.eval x) (a.eval y); binOp op t (a.eval x) (a.eval y)).run P w = .ok c w by
    refine Goes.same r (x := c) ?_ (by show RepP _ _ _ _; simp only [RepP])
    simp only [Sem.run_bind] at hs
    simp only [execOp, ho, Sem.run_bind, Sem.run_pure]
    rw [hs]
    rfl
  unfold binS at hb
  split at hb
  · rename_i k m k' n
    have e1 := ev_val r hx
    have e2 := ev_val r hy
    split at hb
    · rename_i hk
      subst hk
      rw [e1, e2]
      have hg : ∀ W, (eqGuard op t x y (.int k m) (.int k n)).run P W = .ok () W := by intro W; cases op <;> rfl
      simp only [Sem.run_bind, hg, Result.andThen_ok]
      cases op <;> simp only [binI, Option.some.injEq] at hb <;> first
        | (subst hb; simp [binOp, Op.intArith, Op.intCmp]; done)
        | (split at hb; · cases hb
           · rename_i h0; cases hb; simp [binOp, Op.intDiv, h0])
        | cases hb
    · cases hb
  · rename_i m n
    have e1 := ev_val r hx
    have e2 := ev_val r hy
    rw [e1, e2]
    have hg : ∀ W, (eqGuard op t x y (.string m) (.string n)).run P W = .ok () W := by intro W; cases op <;> rfl
    simp only [Sem.run_bind, hg, Result.andThen_ok]
    cases op <;> simp only [binB, Option.some.injEq] at hb <;> first
      | (subst hb; simp [binOp, Op.stringOp]; done)
      | (split at hb
         · rename_i h0
           cases hb
           have : ¬ (((m.size + n.size : Nat) : Int) > IntKind.i64.max) := by
             have : IntKind.i64.max = 9223372036854775807 := by decide
             omega
           simp only [binOp, Op.stringOp, if_neg this]
           rfl
         · cases hb)
      | cases hb
  · rename_i m n
    have e1 := ev_val r hx
    have e2 := ev_val r hy
    split at hb
    · rename_i ti ht
      split at hb
      · rename_i hd
        have e3 := under_bool (tk.ok t ti ht) hd
        rw [e1, e2]
        have hg : ∀ W, (eqGuard op t x y (.bool m) (.bool n)).run P W = .ok () W := by intro W; cases op <;> rfl
        simp only [Sem.run_bind, hg, Result.andThen_ok]
        cases op <;> simp only [Option.some.injEq] at hb <;> first
          | (subst hb; simp only [binOp, Sem.run_bind, equal_bool t m n e3, Result.andThen_ok, Sem.run_pure]; done)
          | cases hb
      · cases hb
    · cases hb
  · rename_i xs ys
    split at hb
    · rename_i ti us vs ht hus hvs
      split at hb
      · cases hb
      · rename_i hne
        split at hb
        · rename_i hh
          rw [Bool.and_eq_true] at hh
          have hvals : ∀ {B : Nat → Prop} {ps : List PV} {us zs : List Value}, valsOf ps = some us → RepL B w ps zs → zs = us := by
            intro B ps
            induction ps with
            | nil => intro us zs h1 h2; simp only [valsOf, Option.some.injEq] at h1; simp only [RepL] at h2; rw [← h1, h2]
            | cons q ps ih =>
              intro us zs h1 h2
              simp only [RepL] at h2
              obtain ⟨z, zr, rfl, h3, h4⟩ := h2
              cases q with
              | val u =>
                simp only [valsOf, Option.map_eq_some_iff] at h1
                obtain ⟨ur, h5, rfl⟩ := h1
                simp only [RepP] at h3
                rw [ih h5 h4, h3]
              | agg _ => simp [valsOf] at h1
              | tup _ => simp [valsOf] at h1
              | sl _ _ => simp [valsOf] at h1
              | fl _ _ => simp [valsOf] at h1
              | ptr _ => simp [valsOf] at h1
              | clo _ _ _ => simp [valsOf] at h1
              | mp _ => simp [valsOf] at h1
              | unk => simp [valsOf] at h1
          have h1 := ev_p r hx
          have h2 := ev_p r hy
          simp only [RepP] at h1 h2
          obtain ⟨zs, e1, h3⟩ := h1
          obtain ⟨ws, e2, h4⟩ := h2
          obtain rfl := hvals hus h3
          obtain rfl := hvals hvs h4
          have hq := tk.eq t ti ht (by intro h0; rw [h0] at hne; exact hne rfl) zs ws w hh.1 hh.2
          rw [e1, e2]
          cases op <;> simp only [Option.some.injEq] at hb <;> first
            | (subst hb; simp only [Sem.run_bind, (hq.1 x y).1, (hq.1 x y).2, Result.andThen_ok, binOp, hq.2, Sem.run_pure]; done)
            | cases hb
        · cases hb
    · cases hb
  · cases hb
end
end Go.Sx
