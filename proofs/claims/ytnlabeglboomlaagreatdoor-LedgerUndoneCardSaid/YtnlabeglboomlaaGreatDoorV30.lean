/- A part of a proof; the last text of this claim says of what. -/
import Derived.Test.YtnlabeglboomlaaGreatDoorV29
import Derived.Defers
set_option linter.unusedVariables false
set_option linter.unusedSimpArgs false
set_option linter.unusedSectionVars false
namespace Go.Sx
open Go Go.RowKit Go.Shelf Go.Proofs
variable {P : Program} {G : World → Prop} {T : Tab} {N : Nat}
def FinP (B : Nat → Prop) (w0 : World) (r : PV) (en : Ending) (w' : World) : Prop := ∃ v, en = .returned v ∧ RepP (fun b => (B b ∨ w0.heap.size ≤ b) ∧ b < w'.heap.size) w' r v ∧ Below w0.heap.size w0 w'
def VD (P : Program) (G : World → Prop) (fn : Func) (N : Nat) (r : PV) (c : Code) (e : Env) (h : Hp) (ρ : Rws) : Prop :=
  ∀ (ζ : Fr) (own : Nat → Nat) (a : Act) (w : World), ζ.ρ = ρ → ζ.ds = [] → ζ.ob = none → (∀ w', ζ.w.grownBy w' ζ.ob → G w') → R ζ N own e h a w → c.wp P (bodyPostD P fn (FinP ζ.B ζ.w r)) a w
def nextX (K : Env → Hp → Rws → Prop) : X → Env → Hp → Rws → Prop
  | .normal, e, h, ρ => K e h ρ
  | _, _, _, _ => False
theorem vd_seq {fn : Func} {r : PV} {x y : Code} {e : Env} {h : Hp} {ρ : Rws} {Y : Hint} (hmix : P.follows .mixedOrders = true) (tk : TOk P T) (hc : codeB Y.ex N x = true) (hv : vc P G T N Y x e h ρ (nextX (VD P G fn N r y))) : VD P G fn N r (.seq x y) e h ρ := by
  intro ζ own a w hρ hds hob hG r0
  subst hρ
  refine wp_seq (wp_mono (vc_sound hmix tk x ζ e h _ own a w hG hc hv r0) ?_)
  intro ex a' w' hq
  cases ex with
  | normal => obtain ⟨rv', own', e', h', ρ', r', hq⟩ := hq; exact hq (ζ.rows ρ' rv') own' a' w' rfl hds hob hG r'
  | ret => obtain ⟨_, _, _, _, _, _, hq⟩ := hq; exact hq.elim
  | exit id => obtain ⟨_, _, _, _, _, _, hq⟩ := hq; exact hq.elim
  | goto l => exact hq.elim
  | panic ch => exact hq.elim
  | outgrown => exact hq.elim
def shS (M : Nat) : SV → SV
  | .box nm off => .box (nm + M) off
  | s => s
def shH (M : Nat) (h : Hp) : Hp := fun n => if M ≤ n then h (n - M) else none
theorem R.shift {ζ : Fr} {own : Nat → Nat} {e : Env} {h : Hp} {a : Act} {w : World} (r : R ζ N own e h a w) {M : Nat} (hM : N ≤ M) (ds : List Deferred) :
    R { ζ with fx := fun n => if M ≤ n then some (own (n - M)) else none, ds := ds } N (fun n => own (n - M)) (fun t => shS M (e t)) (shH M h) { a with defers := ds } w := by
  have hin : ∀ n, shH M h n ≠ none → M ≤ n ∧ h (n - M) ≠ none := by
    intro n hn
    unfold shH at hn
    by_cases hm : M ≤ n
    · rw [if_pos hm] at hn; exact ⟨hm, hn⟩
    · rw [if_neg hm] at hn; exact absurd rfl hn
  have hB : ∀ b, Bk ζ own h w b → Bk { ζ with fx := fun n => if M ≤ n then some (own (n - M)) else none, ds := ds } (fun n => own (n - M)) (shH M h) w b ∧ w.heap[b]? = w.heap[b]? := fun b hb => ⟨⟨hb.1, hb.2.1, fun m hm => hb.2.2.1 _ (hin m hm).2, hb.2.2.2⟩, rfl⟩
  refine ⟨r.size, r.below, r.obl, rfl, ?_, fun t => ?_, ?_, ?_, ?_, r.rinj, ?_⟩
  · intro nm b hh
    by_cases hm : M ≤ nm
    · have hh : some (own (nm - M)) = some b := by simpa [hm] using hh
      exact ⟨by omega, by simpa using hh⟩
    · simp [hm] at hh
  · have ht := r.tmp t
    cases hs : e t with
    | p x => rw [hs] at ht; exact RepP.mono hB x _ ht
    | box nm off =>
      rw [hs] at ht
      refine ⟨?_, ?_⟩
      · show shH M h (nm + M) ≠ none
        unfold shH; rw [if_pos (by omega), Nat.add_sub_cancel]; exact ht.1
      · show _ = Value.pointer (some ⟨own (nm + M - M), off, none⟩)
        rw [Nat.add_sub_cancel]; exact ht.2
    | orow nm => rw [hs] at ht; exact ht
    | rowp nm off => rw [hs] at ht; exact ht
    | any => trivial
  · intro nm T' cs hh
    obtain ⟨h1, _⟩ := hin nm (by rw [hh]; simp)
    have hh : h (nm - M) = some (T', cs) := by unfold shH at hh; rwa [if_pos h1] at hh
    obtain ⟨g1, g2, vs, g3, g4⟩ := r.box _ _ _ hh
    exact ⟨g1, g2, vs, g3, RepL.mono hB cs vs g4⟩
  · intro n m hn hm he
    obtain ⟨h1, h2⟩ := hin n hn
    obtain ⟨h3, h4⟩ := hin m hm
    have := r.inj _ _ h2 h4 he
    omega
  · intro nm q hq
    obtain ⟨vs, h1, h2, h3⟩ := r.row nm q hq
    exact ⟨vs, h1, RepL.mono hB _ _ h2, h3⟩
  · exact fun n m hn hm => r.rbox n _ hn (hin m hm).2
def fxK (b : Bool) (nm off : Nat) (q : Option (TypeId × List PV)) : SV := match b, q with
  | true, some _ => .box nm off
  | _, _ => .any
def fxE (M : Nat) (h : Hp) : SV → SV
  | .box nm off => fxK (Nat.ble M nm) nm off (h nm)
  | _ => .any
theorem fxE_b (M : Nat) (h : Hp) (nm off : Nat) : fxE M h (.box nm off) = fxK (Nat.ble M nm) nm off (h nm) := rfl
theorem fxK_s (nm off : Nat) (x : TypeId × List PV) : fxK true nm off (some x) = .box nm off := rfl
def capE (M : Nat) (nms : List Nat) : Env := fun t => match nms[t]? with | some nm => .box (nm + M) 0 | none => .any
def inH (M : Nat) (h : Hp) : List Nat → Bool
  | [] => true
  | nm :: l => (h (nm + M)).isSome && inH M h l
theorem inH_get {M : Nat} {h : Hp} : ∀ {nms : List Nat}, inH M h nms = true → ∀ (t nm : Nat), nms[t]? = some nm → h (nm + M) ≠ none
  | [], _, t, nm, ht => by simp at ht
  | x :: l, hi, t, nm, ht => by
    simp only [inH, Bool.and_eq_true] at hi
    cases t with
    | zero => simp at ht; subst ht; intro h0; rw [h0] at hi; simp at hi
    | succ t => exact inH_get hi.2 t nm (by simpa using ht)
def capsOk (e : Env) : List Operand → List Nat → Prop
  | [], [] => True
  | x :: xs, nm :: l => evO e x = .box nm 0 ∧ capsOk e xs l
  | _, _ => False
def endX (K : Env → Hp → Rws → Prop) : X → Env → Hp → Rws → Prop
  | .exit _, _, _, _ => False
  | _, e, h, ρ => K e h ρ
def endD (P : Program) (G : World → Prop) (T : Tab) (M N2 : Nat) (Y2 : Hint) (c2 : Code) (nms : List Nat) (rs : List ResultVar) (r : PV) (e : Env) (h : Hp) (ρ : Rws) : Prop :=
  inH M h nms = true ∧ vc P G T N2 Y2 c2 (capE M nms) h ρ (endX fun _ h2 ρ2 => resOf T rs (fun t => fxE M h2 (e t)) h2 ρ2 = some r)
theorem endX_r (K : Env → Hp → Rws → Prop) (e : Env) (h : Hp) (ρ : Rws) : endX K .ret e h ρ = K e h ρ := rfl
theorem endX_n (K : Env → Hp → Rws → Prop) (e : Env) (h : Hp) (ρ : Rws) : endX K .normal e h ρ = K e h ρ := rfl
theorem caps_rep {ζ : Fr} {own : Nat → Nat} {e : Env} {h : Hp} {a : Act} {w : World} (r : R ζ N own e h a w) : ∀ (xs : List Operand) (nms : List Nat), capsOk e xs nms → xs.map a.eval = nms.map (fun nm => Value.pointer (some ⟨own nm, 0, none⟩))
  | [], [], _ => rfl
  | x :: xs, nm :: l, hk => by
    rw [List.map_cons, List.map_cons, (ev_box r hk.1).2, caps_rep r xs l hk.2]
  | [], _ :: _, hk => hk.elim
  | _ :: _, [], hk => hk.elim
theorem vd_defer {fn fn2 : Func} {c2 : Code} {g : FuncId} {id d : Nat} {caps : List Operand} {t1 t2 : TypeId} {p1 p2 : String} {af1 af2 : Array Edge} {ats : Array TypeId} {rest : Code} {r : PV} {e : Env} {h : Hp} {ρ : Rws} {Y Y2 : Hint} {N2 M : Nat} {nms : List Nat} {rs : List ResultVar}
    (hmix : P.follows .mixedOrders = true) (tk : TOk P T) (hrs : fn.results.toList = rs) (hf : P.funcs[g]? = some fn2) (hb : fn2.body = some c2) (hname : (fn2.name == "runtime.NumGoroutine") = false) (hN2 : fn2.ntmps = N2) (hr2 : fn2.results = #[]) (hl2 : nms.length ≤ N2) (hd : d < N) (hM : N ≤ M) (hM2 : N2 ≤ M)
    (hc : codeB Y.ex N rest = true) (hc2 : codeB Y2.ex N2 c2 = true) (hcap : capsOk e caps nms)
    (hv : vc P G T N Y rest (fun t => shS M (updo e (some d) .any t)) (shH M h) ρ (endX (endD P G T M N2 Y2 c2 nms rs r))) :
    VD P G fn N r (.seq (.region id #[⟨some d, .makeFunc (.func g) #[] caps.toArray, t1, p1, af1, none⟩, ⟨none, .defer ⟨.value (.tmp d), #[], ats⟩, t2, p2, af2, none⟩] false) rest) e h ρ := by
  intro ζ own a w hρ hds hob hG r0
  subst hρ hN2 hrs
  refine wp_seq (wp_region ?_)
  have hcv := caps_rep r0 caps nms hcap
  let cv : Array Value := ⟨nms.map fun nm => Value.pointer (some ⟨own nm, 0, none⟩)⟩
  have e1 : caps.toArray.map a.eval = cv := by apply Array.toList_inj.1; simpa using hcv
  let fv : Value := .func (.func g) #[] cv
  have r1 : R ζ N own (updo e (some d) .any) h (a.put (some d) fv) w := r0.put (some d) .any fv hd trivial
  have ge : (a.put (some d) fv).tmps.getD d undef = fv := put_tmps_same a d fv (by rw [r0.size]; exact hd)
  have hdf : (a.put (some d) fv).defers = [] := by rw [put_defers, r0.defs, hds]
  have r2 := r1.shift hM [⟨.fn (.func g) cv, #[]⟩]
  rw [show List.range (#[(⟨some d, .makeFunc (.func g) #[] caps.toArray, t1, p1, af1, none⟩ : Oper), ⟨none, .defer ⟨.value (.tmp d), #[], ats⟩, t2, p2, af2, none⟩] : Array Oper).size = [0, 1] from rfl]
  have step2 : ∀ (Q : Exit → Act → World → Prop), Q .normal { (a.put (some d) fv) with defers := [⟨.fn (.func g) cv, #[]⟩] } w →
      wpOps P #[(⟨some d, .makeFunc (.func g) #[] caps.toArray, t1, p1, af1, none⟩ : Oper), ⟨none, .defer ⟨.value (.tmp d), #[], ats⟩, t2, p2, af2, none⟩] Q [0, 1] a w := by
    intro Q hQ
    simp only [wpOps]
    rw [show (#[(⟨some d, .makeFunc (.func g) #[] caps.toArray, t1, p1, af1, none⟩ : Oper), ⟨none, .defer ⟨.value (.tmp d), #[], ats⟩, t2, p2, af2, none⟩] : Array Oper)[0]? = some ⟨some d, .makeFunc (.func g) #[] caps.toArray, t1, p1, af1, none⟩ from rfl,
      show (#[(⟨some d, .makeFunc (.func g) #[] caps.toArray, t1, p1, af1, none⟩ : Oper), ⟨none, .defer ⟨.value (.tmp d), #[], ats⟩, t2, p2, af2, none⟩] : Array Oper)[1]? = some ⟨none, .defer ⟨.value (.tmp d), #[], ats⟩, t2, p2, af2, none⟩ from rfl]
    simp only [Region.wanted, if_true]
    refine .inl ?_
    unfold Oper.wp
    rw [show (execOp a.eval ⟨some d, .makeFunc (.func g) #[] caps.toArray, t1, p1, af1, none⟩).run P w = .ok (.value fv) w by simp [execOp, Instr.makeFunc, e1, fv], Oper.upon_value]
    refine .inl ?_
    rw [show (execOp (a.put (some d) fv).eval ⟨none, .defer ⟨.value (.tmp d), #[], ats⟩, t2, p2, af2, none⟩).run P w = .ok (.defer ⟨.fn (.func g) cv, #[]⟩) w by simp [execOp, resolve, Act.eval, ge, fv, Deferred.ofValue], Oper.upon_defer, hdf]
    exact hQ
  refine step2 _ ?_
  refine wp_mono (vc_sound hmix tk rest { ζ with fx := fun n => if M ≤ n then some (own (n - M)) else none, ds := [⟨.fn (.func g) cv, #[]⟩] } _ _ _ _ _ w hG hc hv r2) ?_
  have fin : ∀ a' w', (∃ rv own' e' h' ρ', R ({ ζ with fx := fun n => if M ≤ n then some (own (n - M)) else none, ds := [⟨.fn (.func g) cv, #[]⟩] }.rows ρ' rv) N own' e' h' a' w' ∧ endD P G T M fn2.ntmps Y2 c2 nms fn.results.toList r e' h' ρ') → Leaves P fn a'.tmps (FinP ζ.B ζ.w r) a'.defers .returning w' := by
    rintro a' w' ⟨rv, own', e', h', ρ', r', hin, hv2⟩
    have hd' : a'.defers = [⟨.fn (.func g) cv, #[]⟩] := r'.defs
    have hfx : ∀ n, M ≤ n → own' n = own (n - M) := fun n hn => (r'.fix n _ (by show (if M ≤ n then _ else _) = _; rw [if_pos hn])).2
    rw [hd']
    refine leaves_cons (f := g) (args := #[] ++ cv) (by simp) (enters_of hf hname hb _ _) ?_
    have key : CallsD P g (#[] ++ cv) .returning w' fun e u' w'' => u' = .returning ∧ ∃ v, e = .returned v ∧ ∃ x, (results fn a'.tmps).run P w'' = .ok x w'' ∧ FinP ζ.B ζ.w r (.returned x) w'' := by
      refine callsD_of_wp hf hb (R := fun e w'' => ∃ v, e = .returned v ∧ ∃ x, (results fn a'.tmps).run P w'' = .ok x w'' ∧ FinP ζ.B ζ.w r (.returned x) w'') ?_
      let ζ3 : Fr := { ζ with ρ := ρ', rv := rv, fx := fun n => if M ≤ n then some (own (n - M)) else none, ds := [] }
      have r3 : R ζ3 fn2.ntmps own' (capE M nms) h' { tmps := (#[] ++ cv) ++ Array.replicate (fn2.ntmps - (#[] ++ cv).size) undef, defers := [] } w' := by
        refine ⟨by simp [cv]; omega, r'.below, r'.obl, rfl, ?_, fun t => ?_, r'.box, r'.inj, r'.row, r'.rinj, r'.rbox⟩
        · intro nm b hh
          have := r'.fix nm b hh
          refine ⟨?_, this.2⟩
          by_cases hm : M ≤ nm
          · omega
          · have hh : (if M ≤ nm then some (own (nm - M)) else none) = some b := hh
            rw [if_neg hm] at hh; cases hh
        · unfold capE
          cases hn : nms[t]? with
          | none => trivial
          | some nm =>
            refine ⟨inH_get hin t nm hn, ?_⟩
            have hlt : t < nms.length := (List.getElem?_eq_some_iff.1 hn).1
            rw [Array.getD_eq_getD_getElem?, Array.getElem?_append, if_pos (by simp [cv]; exact hlt)]
            have : (#[] ++ cv)[t]? = some (Value.pointer (some ⟨own nm, 0, none⟩)) := by simp [cv, hn]
            rw [this, hfx _ (by omega), Nat.add_sub_cancel]; rfl
      refine wp_mono (vc_sound hmix tk c2 ζ3 _ _ _ _ _ w' hG hc2 hv2 r3) ?_
      have fin2 : ∀ a2 w2, (∃ rv2 own2 e2 h2 ρ2, R (ζ3.rows ρ2 rv2) fn2.ntmps own2 e2 h2 a2 w2 ∧ resOf T fn.results.toList (fun t => fxE M h2 (e' t)) h2 ρ2 = some r) → a2.defers = [] ∧ ∃ v, (results fn2 a2.tmps).run P w2 = .ok v w2 ∧ ∃ v', Ending.returned v = .returned v' ∧ ∃ x, (results fn a'.tmps).run P w2 = .ok x w2 ∧ FinP ζ.B ζ.w r (.returned x) w2 := by
        rintro a2 w2 ⟨rv2, own2, e2, h2, ρ2, r4, hres⟩
        have hfx2 : ∀ n, M ≤ n → own2 n = own' n := fun n hn => by
          rw [hfx n hn]; exact (r4.fix n _ (by show (if M ≤ n then _ else _) = _; rw [if_pos hn])).2
        let ζ5 : Fr := { ζ with ρ := ρ2, rv := rv2, fx := fun _ => none, ds := [] }
        have r5 : R ζ5 N own2 (fun t => fxE M h2 (e' t)) h2 { tmps := a'.tmps, defers := [] } w2 := by
          refine ⟨r'.size, r4.below, r4.obl, rfl, fun nm b hh => (by cases hh), fun t => ?_, r4.box, r4.inj, r4.row, r4.rinj, r4.rbox⟩
          have ht := r'.tmp t
          show RepS _ _ _ _ (fxE M h2 (e' t)) _
          cases hs : e' t with
          | box nm off =>
            rw [hs] at ht
            rw [fxE_b]
            cases hb1 : Nat.ble M nm with
            | false => unfold fxK; trivial
            | true =>
              cases hb2 : h2 nm with
              | none => unfold fxK; trivial
              | some q => exact ⟨by rw [hb2]; simp, by rw [hfx2 nm (Nat.le_of_ble_eq_true hb1)]; exact ht.2⟩
          | p x => trivial
          | orow nm => trivial
          | rowp nm off => trivial
          | any => trivial
        obtain ⟨x, h6, h7⟩ := resOf_run (P := P) tk r5 hres
        refine ⟨r4.defs, .tuple #[], ?_, _, rfl, x, h6, x, rfl, RepP.mono (fun b hb => ⟨⟨hb.1, hb.2.1⟩, rfl⟩) _ _ h7, ?_⟩
        · simp [results, hr2]
        · have := r4.below
          rw [show (ζ3.rows ρ2 rv2).ob = none from hob] at this
          exact below_grownBy this
      intro ex a2 w2 hq
      cases ex with
      | normal => exact fin2 a2 w2 hq
      | ret => exact fin2 a2 w2 hq
      | exit id => obtain ⟨_, _, _, _, _, _, hq⟩ := hq; exact hq.elim
      | goto l => exact hq.elim
      | panic ch => exact hq.elim
      | outgrown => exact hq.elim
    refine key.mono ?_
    rintro en u' w'' ⟨rfl, v, rfl, x, h8, h9⟩
    exact ⟨x, h8, h9⟩
  intro ex a' w' hq
  cases ex with
  | normal => exact fin a' w' hq
  | ret => exact fin a' w' hq
  | exit id => obtain ⟨_, _, _, _, _, _, hq⟩ := hq; exact hq.elim
  | goto l => exact hq.elim
  | panic ch => exact hq.elim
  | outgrown => exact hq.elim
theorem meets_of_vd (hGs : ∀ w w', G w → Below w.heap.size w w' → G w') {f : FuncId} {fn : Func} {c : Code} (hf : P.funcs[f]? = some fn) (hb : fn.body = some c) (hname : (fn.name == "runtime.NumGoroutine") = false)
    {args : List PV} {r : PV} (hN : fn.ntmps = N) (hlen : args.length ≤ N) (hv : VD P G fn N r c (env0 args) (fun _ => none) (fun _ => none)) : Meets P G f args r := by
  subst hN
  refine ⟨enters_of hf hname hb, ?_⟩
  intro B vs w hB hr hg
  have hl := hr.length
  have hob : (Fr.mk w B undef (fun _ => none) (fun _ => undef) (fun _ => none) []).ob = none := rfl
  refine calls_of_wp_defers hf hb (hv ⟨w, B, undef, fun _ => none, fun _ => undef, fun _ => none, []⟩ (fun _ => 0) _ w rfl rfl rfl (fun w' hb => hGs w w' hg (below_grownBy hb)) ?_)
  refine ⟨?_, grownBy_refl _ _, fun g hg => (by cases hg), rfl, fun nm b hh => (by cases hh), ?_, (fun nm T cs hh => by cases hh), fun n m hn => absurd rfl hn, fun nm q hq => (by cases hq), fun n m g hn => absurd rfl hn, fun n m hn => absurd rfl hn⟩
  · simp; omega
  · exact env0_rep hr _ (fun b hb => ⟨.inl hb, hB b hb, fun nm hn => absurd rfl hn, fun nm hn => absurd rfl hn, by rw [hob]; simp⟩)
theorem vd_weaken {fn : Func} {r : PV} {c : Code} {e : Env} {h : Hp} {ρ : Rws} {l : Ls} {lh : Lh} {lr : Lr} (hi : Is l lh lr e h ρ) (hv : VD P G fn N r c (envL l) (hpL lh) (rwL lr)) : VD P G fn N r c e h ρ := by
  intro ζ own a w hρ hds hob hG r0
  subst hρ
  exact hv (ζ.rows (rwL lr) ζ.rv) own a w rfl hds hob hG (r0.weaken hi)
theorem shE_L (M d : Nat) : ∀ (l : Ls), l.all (fun x => !(x.1 == d)) = true → (fun t => shS M (updo (envL l) (some d) .any t)) = envL (l.map fun x : Nat × SV => (x.1, shS M x.2)) := by
  intro l hl
  funext t
  have e0 : ∀ l : Ls, shS M (envL l t) = envL (l.map fun x : Nat × SV => (x.1, shS M x.2)) t := by
    intro l
    unfold envL
    rw [List.find?_map]
    rw [show ((fun x : Nat × SV => x.1 == t) ∘ fun x : Nat × SV => (x.1, shS M x.2)) = fun x => x.1 == t from rfl]
    cases l.find? fun x : Nat × SV => x.1 == t <;> rfl
  by_cases ht : t = d
  · subst ht
    have : envL l t = .any := by
      unfold envL
      have : l.find? (fun x => x.1 == t) = none := by
        rw [List.find?_eq_none]; intro x hx; have := List.all_eq_true.1 hl x hx; simpa using this
      rw [this]
    rw [← e0 l, this]
    show shS M (updo (envL l) (some t) .any t) = _
    simp [updo, upd]
  · rw [← e0 l]
    show shS M (updo (envL l) (some d) .any t) = _
    simp [updo, upd, ht]
theorem shH_L (M : Nat) (lh : Lh) : shH M (hpL lh) = hpL (lh.map fun x : Nat × TypeId × List PV => (x.1 + M, x.2)) := by
  funext n
  unfold shH hpL
  rw [List.find?_map]
  by_cases hm : M ≤ n
  · rw [if_pos hm]
    have : ((fun x : Nat × TypeId × List PV => x.1 == n) ∘ fun x : Nat × TypeId × List PV => (x.1 + M, x.2)) = fun x => x.1 == n - M := by
      funext x
      show (x.1 + M == n) = (x.1 == n - M)
      rw [Bool.eq_iff_iff]
      simp only [beq_iff_eq]
      omega
    rw [this]
    cases lh.find? fun x : Nat × TypeId × List PV => x.1 == n - M <;> rfl
  · rw [if_neg hm]
    have : lh.find? ((fun x : Nat × TypeId × List PV => x.1 == n) ∘ fun x : Nat × TypeId × List PV => (x.1 + M, x.2)) = none := by
      rw [List.find?_eq_none]; intro x hx
      show ¬ (x.1 + M == n) = true
      simp only [beq_iff_eq]; omega
    rw [this]; rfl
def capL (M : Nat) : Nat → List Nat → Ls
  | _, [] => []
  | i, nm :: l => (i, .box (nm + M) 0) :: capL M (i + 1) l
theorem capE_L (M : Nat) (nms : List Nat) : capE M nms = envL (capL M 0 nms) := by
  have : ∀ (nms : List Nat) (i t : Nat), (match nms[t]? with | some nm => SV.box (nm + M) 0 | none => .any) = envL (capL M i nms) (i + t) := by
    intro nms
    induction nms with
    | nil => intro i t; simp [capL, envL]
    | cons nm l ih =>
      intro i t
      cases t with
      | zero => simp [capL, envL]
      | succ t =>
        rw [List.getElem?_cons_succ, ih (i + 1) t]
        unfold envL
        simp only [capL, List.find?_cons]
        rw [show (i == i + (t + 1)) = false by simp, show i + 1 + t = i + (t + 1) by omega]
  funext t
  have := this nms 0 t
  rw [Nat.zero_add] at this
  exact this
theorem vd_deferL {fn fn2 : Func} {c2 : Code} {g : FuncId} {id d : Nat} {caps : List Operand} {t1 t2 : TypeId} {p1 p2 : String} {af1 af2 : Array Edge} {ats : Array TypeId} {rest : Code} {r : PV} {e : Env} {h : Hp} {ρ : Rws} {Y Y2 : Hint} {N2 : Nat} {rs : List ResultVar}
    (M : Nat) (nms : List Nat) (l : Ls) (lh : Lh) (hmix : P.follows .mixedOrders = true) (tk : TOk P T) (hrs : fn.results.toList = rs) (hf : P.funcs[g]? = some fn2) (hb : fn2.body = some c2) (hname : (fn2.name == "runtime.NumGoroutine") = false) (hN2 : fn2.ntmps = N2) (hr2 : fn2.results = #[]) (hl2 : nms.length ≤ N2) (hd : d < N) (hM : N ≤ M) (hM2 : N2 ≤ M)
    (hc : codeB Y.ex N rest = true) (hc2 : codeB Y2.ex N2 c2 = true) (hi : Is l lh [] e h ρ) (hld : l.all (fun x => !(x.1 == d)) = true) (hcap : capsOk (envL l) caps nms)
    (hv : vc P G T N Y rest (envL (l.map fun x : Nat × SV => (x.1, shS M x.2))) (hpL (lh.map fun x : Nat × TypeId × List PV => (x.1 + M, x.2))) (rwL []) (endX fun e h ρ => inH M h nms = true ∧ vc P G T N2 Y2 c2 (envL (capL M 0 nms)) h ρ (endX fun _ h2 ρ2 => resOf T rs (fun t => fxE M h2 (e t)) h2 ρ2 = some r))) :
    VD P G fn N r (.seq (.region id #[⟨some d, .makeFunc (.func g) #[] caps.toArray, t1, p1, af1, none⟩, ⟨none, .defer ⟨.value (.tmp d), #[], ats⟩, t2, p2, af2, none⟩] false) rest) e h ρ := by
  refine vd_weaken hi (vd_defer hmix tk hrs hf hb hname hN2 hr2 hl2 hd hM hM2 hc hc2 hcap (Y2 := Y2) ?_)
  rw [shE_L M d l hld, shH_L]
  have he : (fun e h ρ => inH M h nms = true ∧ vc P G T N2 Y2 c2 (envL (capL M 0 nms)) h ρ (endX fun _ h2 ρ2 => resOf T rs (fun t => fxE M h2 (e t)) h2 ρ2 = some r)) = endD P G T M N2 Y2 c2 nms rs r := by
    funext e h ρ; unfold endD; rw [capE_L]
  rw [← he]
  exact hv
end Go.Sx
