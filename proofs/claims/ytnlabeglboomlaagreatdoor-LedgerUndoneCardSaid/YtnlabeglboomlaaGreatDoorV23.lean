/- A part of a proof; the last text of this claim says of what. -/
import Derived.Test.YtnlabeglboomlaaGreatDoorV22
set_option linter.unusedVariables false
set_option linter.unusedSimpArgs false
set_option linter.unusedSectionVars false
namespace Go.Sx
open Go Go.RowKit Go.Shelf Go.Proofs
def env0 : List PV → Env
  | [], _ => .p (.val undef)
  | x :: _, 0 => .p x
  | _ :: l, t + 1 => env0 l t
theorem env0_eq : ∀ (args : List PV) (t : Nat), env0 args t = match args[t]? with | some x => .p x | none => .p (.val undef)
  | [], t => by simp [env0]
  | x :: l, 0 => rfl
  | x :: l, t + 1 => by rw [env0, env0_eq l t]; simp
def resTmp (ρ : Rws) (x : SV) : Option PV :=
  match x with
  | .p y => some y
  | .orow nm => (match ρ nm with | some q => (match q.par with | true => none | false => some (.sl q.n q.cs)) | none => none)
  | _ => none
def resVar (T : Tab) (e : Env) (h : Hp) (ρ : Rws) : ResultVar → Option PV
  | .tmp t => resTmp ρ (e t)
  | .cell a t => (match T t, isPtr (e a) with | some ti, true => loadP ti (cellsAt ρ h (e a)) | _, _ => none)
def resVars (T : Tab) (e : Env) (h : Hp) (ρ : Rws) : List ResultVar → Option (List PV)
  | [] => some []
  | x :: xs => (match resVar T e h ρ x, resVars T e h ρ xs with | some y, some ys => some (y :: ys) | _, _ => none)
def resOf (T : Tab) (rs : List ResultVar) (e : Env) (h : Hp) (ρ : Rws) : Option PV :=
  match resVars T e h ρ rs with
  | some [y] => some y
  | some ys => some (.tup ys)
  | none => none
def retX (T : Tab) (rs : List ResultVar) (r : PV) : X → Env → Hp → Rws → Prop
  | .exit _, _, _, _ => False
  | _, e, h, ρ => resOf T rs e h ρ = some r
def retM (T : Tab) (rs : List ResultVar) (q' : RowE) (r : PV) : X → Env → Hp → Rws → Prop
  | .exit _, _, _, _ => False
  | _, e, h, ρ => resOf T rs e h ρ = some r ∧ ρ 0 = some { q' with par := true }
def rowOf (ρ : Rws) : SV → Option RowE
  | .orow nm => ρ nm
  | _ => none
def retR (t : Nat) (q : RowE) : X → Env → Hp → Rws → Prop
  | .exit _, _, _, _ => False
  | _, e, h, ρ => rowOf ρ (e t) = some q
def resRun (tm : Array Value) : ResultVar → Sem Value
  | .tmp t => pure (tm.getD t undef)
  | .cell a t => do loadVar t (← asAddr (tm.getD a undef))
theorem results_eq (fn : Func) (tm : Array Value) : results fn tm = (do let vs ← fn.results.mapM (resRun tm); pure (if h : vs.size = 1 then vs[0] else .tuple vs)) := by
  unfold results
  congr 2
section
variable {P : Program} {G : World → Prop} {T : Tab} {ζ : Fr} {N : Nat} {own own' : Nat → Nat} {e e' : Env} {h h' : Hp} {a : Act} {w w' : World}
def Bres (ζ : Fr) (w : World) (b : Nat) : Prop := (ζ.B b ∨ ζ.w.heap.size ≤ b) ∧ b < w.heap.size ∧ ζ.ob ≠ some b
theorem Bk.res {b : Nat} (hb : Bk ζ own h w b) : Bres ζ w b := ⟨hb.1, hb.2.1, hb.2.2.2.2⟩
theorem resTmp_rep (r : R ζ N own e h a w) {t : Nat} {y : PV} (hx : resTmp ζ.ρ (e t) = some y) : RepP (Bres ζ w) w y (a.tmps.getD t undef) := by
  have ht := r.tmp t
  unfold resTmp at hx
  split at hx
  · rename_i z hz
    cases hx
    rw [hz] at ht
    exact RepP.mono (fun b hb => ⟨hb.res, rfl⟩) _ _ ht
  · rename_i nm hz
    rw [hz] at ht
    split at hx
    · rename_i q hq
      split at hx
      · cases hx
      · rename_i hp
        cases hx
        obtain ⟨vs, g1, g2, g3⟩ := r.row nm q hq
        rw [hp] at g3
        simp only [Bool.false_eq_true, if_false] at g3
        rw [ht.2]
        refine ownsRow_slice g1 (RepL.mono (fun b hb => ⟨hb.res, rfl⟩) _ _ g2) fun g hg => ⟨.inr (g3 g hg), r.row_lt ht.1 hg, fun e1 => ?_⟩
        have := r.obl g e1
        have := g3 g hg
        omega
    · cases hx
  · cases hx
theorem resVar_run (tk : TOk P T) (r : R ζ N own e h a w) {x : ResultVar} {y : PV} (hx : resVar T e h ζ.ρ x = some y) :
    ∃ v, (resRun a.tmps x).run P w = .ok v w ∧ RepP (Bres ζ w) w y v := by
  cases x with
  | tmp t => exact ⟨_, rfl, resTmp_rep r hx⟩
  | cell ad t =>
    simp only [resVar] at hx
    split at hx
    · rename_i ti hti hp
      obtain ⟨b, o, vs, h1, h2, h3⟩ := ptr_cells r (x := .tmp ad) hp
      obtain ⟨z, h4, h5⟩ := loadVar_run (P := P) (tk.ok t ti hti) h2 h3 hx
      refine ⟨z, ?_, RepP.mono (fun b hb => ⟨hb.res, rfl⟩) _ _ h5⟩
      have h6 : a.tmps.getD ad undef = .pointer (some ⟨b, o, none⟩) := h1
      simp [resRun, h6, asAddr, h4]
    · cases hx
theorem resVars_run (tk : TOk P T) (r : R ζ N own e h a w) : ∀ {xs : List ResultVar} {ys : List PV}, resVars T e h ζ.ρ xs = some ys →
    ∃ vs, (xs.mapM (resRun a.tmps)).run P w = .ok vs w ∧ RepL (Bres ζ w) w ys vs
  | [], ys, hx => by
    simp only [resVars, Option.some.injEq] at hx
    subst hx
    exact ⟨[], by simp, by simp [RepL]⟩
  | x :: xs, ys, hx => by
    simp only [resVars] at hx
    split at hx
    · rename_i y zs hy hzs
      cases hx
      obtain ⟨v, h1, h2⟩ := resVar_run tk r hy
      obtain ⟨vs, h3, h4⟩ := resVars_run tk r hzs
      refine ⟨v :: vs, ?_, by simp only [RepL]; exact ⟨v, vs, rfl, h2, h4⟩⟩
      rw [List.mapM_cons, Sem.run_bind, h1, Result.andThen_ok, Sem.run_bind, h3]
      rfl
    · cases hx
theorem resOf_run (tk : TOk P T) (r : R ζ N own e h a w) {fn : Func} {y : PV} (hx : resOf T fn.results.toList e h ζ.ρ = some y) : ∃ v, (results fn a.tmps).run P w = .ok v w ∧ RepP (Bres ζ w) w y v := by
  unfold resOf at hx
  have key : ∀ ys, resVars T e h ζ.ρ fn.results.toList = some ys → ∃ vs : List Value, RepL (Bres ζ w) w ys vs ∧ (results fn a.tmps).run P w = .ok (if h : (⟨vs⟩ : Array Value).size = 1 then (⟨vs⟩ : Array Value)[0] else .tuple ⟨vs⟩) w := by
    intro ys hys
    obtain ⟨vs, h1, h2⟩ := resVars_run (P := P) tk r hys
    refine ⟨vs, h2, ?_⟩
    rw [results_eq, Array.mapM_eq_mapM_toList, Sem.run_bind, Sem.run_map, h1]
    rfl
  split at hx
  · rename_i z hz
    cases hx
    obtain ⟨vs, h1, h2⟩ := key _ hz
    simp only [RepL] at h1
    obtain ⟨v, xs, rfl, h3, rfl⟩ := h1
    exact ⟨v, h2, h3⟩
  · rename_i ys hne hys
    cases hx
    obtain ⟨vs, h1, h2⟩ := key _ hys
    refine ⟨.tuple ⟨vs⟩, ?_, by simp only [RepP]; exact ⟨vs, rfl, h1⟩⟩
    rw [h2]
    have hl := h1.length
    rw [dif_neg]
    intro h5
    have h6 : vs.length = 1 := h5
    rw [hl] at h6
    obtain ⟨z, hz⟩ := List.length_eq_one_iff.1 h6
    exact hne z hz
  · cases hx
theorem env0_rep {args : List PV} {vs : List Value} {B : Nat → Prop} (hr : RepL B w args vs) (N : Nat) (hz : ∀ b, B b → Bk ζ own h w b) (t : Nat) : RepS ζ own h w (env0 args t) ((⟨vs⟩ ++ Array.replicate N undef : Array Value).getD t undef) := by
  rw [env0_eq]
  have hl := hr.length
  rw [Array.getD_eq_getD_getElem?, Array.getElem?_append]
  split
  · rename_i x hx
    obtain ⟨v, h1, h2⟩ := hr.get t x hx
    have hlt : t < vs.length := (List.getElem?_eq_some_iff.1 h1).1
    rw [if_pos (by simpa using hlt)]
    have : (⟨vs⟩ : Array Value)[t]? = some v := by simpa using h1
    rw [this]
    exact RepP.mono (fun b hb => ⟨hz b hb, rfl⟩) _ _ h2
  · rename_i hx
    have hge := List.getElem?_eq_none_iff.1 hx
    rw [if_neg (by simp; omega), Array.getElem?_replicate]
    show RepP _ _ _ _
    simp only [RepP]
    split <;> rfl
theorem meets_of_vc (hmix : P.follows .mixedOrders = true) (tk : TOk P T) (hGs : ∀ w w', G w → Below w.heap.size w w' → G w') {f : FuncId} {fn : Func} {c : Code} (hf : P.funcs[f]? = some fn) (hb : fn.body = some c) (hname : (fn.name == "runtime.NumGoroutine") = false)
    {args : List PV} {r : PV} {N : Nat} {rs : List ResultVar} (hN : fn.ntmps = N) (hrs : fn.results.toList = rs) (hlen : args.length ≤ N) {Y : Hint} (hc : codeB Y.ex N c = true) (hv : vc P G T N Y c (env0 args) (fun _ => none) (fun _ => none) (retX T rs r)) : Meets P G f args r := by
  subst hN hrs
  refine ⟨enters_of hf hname hb, ?_⟩
  intro B vs w hB hr hg
  refine calls_of_wp hf hb ?_
  have hl := hr.length
  have hob : (Fr.mk w B undef (fun _ => none) (fun _ => undef) (fun _ => none) []).ob = none := rfl
  have r0 : R ⟨w, B, undef, fun _ => none, fun _ => undef, fun _ => none, []⟩ fn.ntmps (fun _ => 0) (env0 args) (fun _ => none) { tmps := ⟨vs⟩ ++ Array.replicate (fn.ntmps - (⟨vs⟩ : Array Value).size) undef, defers := [] } w := by
    refine ⟨?_, grownBy_refl _ _, fun g hg => (by cases hg), rfl, fun nm b hh => (by cases hh), ?_, (fun nm T cs hh => by cases hh), fun n m hn => absurd rfl hn, fun nm q hq => (by cases hq), fun n m g hn => absurd rfl hn, fun n m hn => absurd rfl hn⟩
    · simp; omega
    · exact env0_rep hr _ (fun b hb => ⟨.inl hb, hB b hb, fun nm hn => absurd rfl hn, fun nm hn => absurd rfl hn, by rw [hob]; simp⟩)
  refine wp_mono (vc_sound hmix tk c ⟨w, B, undef, fun _ => none, fun _ => undef, fun _ => none, []⟩ _ _ _ _ _ w (fun w' hb => hGs w w' hg (below_grownBy hb)) hc hv r0) ?_
  have fin : ∀ a' w', (∃ rv own e h ρ, R ((Fr.mk w B undef (fun _ => none) (fun _ => undef) (fun _ => none) []).rows ρ rv) fn.ntmps own e h a' w' ∧ resOf T fn.results.toList e h ρ = some r) → a'.defers = [] ∧ ∃ v, (results fn a'.tmps).run P w' = .ok v w' ∧ ∃ u, Ending.returned v = .returned u ∧ RepP (fun b => (B b ∨ w.heap.size ≤ b) ∧ b < w'.heap.size) w' r u ∧ Below w.heap.size w w' := by
    rintro a' w' ⟨rv, own, e, h, ρ, r', hres⟩
    obtain ⟨v, h1, h2⟩ := resOf_run (P := P) tk r' hres
    exact ⟨r'.defs, v, h1, v, rfl, RepP.mono (fun b hb => ⟨⟨hb.1, hb.2.1⟩, rfl⟩) _ _ h2, below_grownBy r'.below⟩
  intro ex a' w' hq
  cases ex with
  | normal => exact fin a' w' hq
  | ret => exact fin a' w' hq
  | exit id => obtain ⟨_, _, _, _, _, _, hq⟩ := hq; exact hq.elim
  | goto l => exact hq.elim
  | panic ch => exact hq.elim
  | outgrown => exact hq.elim
theorem meetsR_of_vc (hmix : P.follows .mixedOrders = true) (tk : TOk P T) (hGs : ∀ w w', G w → Below w.heap.size w w' → G w') {f : FuncId} {fn : Func} {c : Code} (hf : P.funcs[f]? = some fn) (hb : fn.body = some c) (hname : (fn.name == "runtime.NumGoroutine") = false)
    {args : List PV} {q : RowE} {N t : Nat} (hN : fn.ntmps = N) (hrs : fn.results.toList = [.tmp t]) (hlen : args.length ≤ N) {Y : Hint} (hc : codeB Y.ex N c = true) (hp : q.par = false) (hv : vc P G T N Y c (env0 args) (fun _ => none) (fun _ => none) (retR t q)) : MeetsR P G f args q := by
  subst hN
  refine ⟨enters_of hf hname hb, ?_⟩
  intro B vs w hB hr hg
  refine calls_of_wp hf hb ?_
  have hl := hr.length
  have hob : (Fr.mk w B undef (fun _ => none) (fun _ => undef) (fun _ => none) []).ob = none := rfl
  have r0 : R ⟨w, B, undef, fun _ => none, fun _ => undef, fun _ => none, []⟩ fn.ntmps (fun _ => 0) (env0 args) (fun _ => none) { tmps := ⟨vs⟩ ++ Array.replicate (fn.ntmps - (⟨vs⟩ : Array Value).size) undef, defers := [] } w := by
    refine ⟨?_, grownBy_refl _ _, fun g hg => (by cases hg), rfl, fun nm b hh => (by cases hh), ?_, (fun nm T cs hh => by cases hh), fun n m hn => absurd rfl hn, fun nm q hq => (by cases hq), fun n m g hn => absurd rfl hn, fun n m hn => absurd rfl hn⟩
    · simp; omega
    · exact env0_rep hr _ (fun b hb => ⟨.inl hb, hB b hb, fun nm hn => absurd rfl hn, fun nm hn => absurd rfl hn, by rw [hob]; simp⟩)
  refine wp_mono (vc_sound hmix tk c ⟨w, B, undef, fun _ => none, fun _ => undef, fun _ => none, []⟩ _ _ _ _ _ w (fun w' hb => hGs w w' hg (below_grownBy hb)) hc hv r0) ?_
  have fin : ∀ a' w', (∃ rv own e h ρ, R ((Fr.mk w B undef (fun _ => none) (fun _ => undef) (fun _ => none) []).rows ρ rv) fn.ntmps own e h a' w' ∧ rowOf ρ (e t) = some q) → a'.defers = [] ∧ ∃ v, (results fn a'.tmps).run P w' = .ok v w' ∧ ∃ x us', Ending.returned v = .returned x ∧ Below w.heap.size w w' ∧ w'.ownsRow 0 q.E q.sz x q.n us' ∧ RepL (fun b => (B b ∨ w.heap.size ≤ b) ∧ b < w'.heap.size ∧ x.ownBlock ≠ some b) w' q.cs us' ∧ ∀ g, x.ownBlock = some g → w.heap.size ≤ g := by
    rintro a' w' ⟨rv, own, e, h, ρ, r', hres⟩
    have hrun : (results fn a'.tmps).run P w' = .ok (a'.tmps.getD t undef) w' := by
      rw [results_eq, Array.mapM_eq_mapM_toList, hrs]
      simp [resRun, List.mapM_cons]
    have ht := r'.tmp t
    unfold rowOf at hres
    split at hres
    · rename_i nm hs
      rw [hs] at ht
      obtain ⟨_, ht⟩ := ht
      obtain ⟨us', g1, g2, g3⟩ := r'.row nm q hres
      rw [hp] at g3
      have ht : a'.tmps.getD t undef = rv nm := ht
      refine ⟨r'.defs, _, hrun, _, us', rfl, below_grownBy r'.below, by rw [ht]; exact g1, ?_, by rw [ht]; exact g3⟩
      refine RepL.mono (fun b hb => ⟨⟨hb.1, hb.2.1, ?_⟩, rfl⟩) _ _ g2
      rw [ht]
      exact hb.2.2.2.1 nm (by show ρ nm ≠ none; rw [hres]; simp)
    · cases hres
  intro ex a' w' hq
  cases ex with
  | normal => exact fin a' w' hq
  | ret => exact fin a' w' hq
  | exit id => obtain ⟨_, _, _, _, _, _, hq⟩ := hq; exact hq.elim
  | goto l => exact hq.elim
  | panic ch => exact hq.elim
  | outgrown => exact hq.elim
def env0M (args : List PV) : Env
  | 0 => .orow 0
  | t + 1 => env0 args t
def rw0 (q : RowE) : Rws
  | 0 => some { q with par := true }
  | _ => none
theorem meetsM_of_vc (hmix : P.follows .mixedOrders = true) (tk : TOk P T) {f : FuncId} {fn : Func} {c : Code} (hf : P.funcs[f]? = some fn) (hb : fn.body = some c) (hname : (fn.name == "runtime.NumGoroutine") = false)
    {q q' : RowE} {args : List PV} {r : PV} {N : Nat} {rs : List ResultVar} (hN : fn.ntmps = N) (hrs : fn.results.toList = rs) (hlen : args.length + 1 ≤ N) {Y : Hint} (hc : codeB Y.ex N c = true) (hp : q'.par = q.par)
    (hv : vc P G T N Y c (env0M args) (fun _ => none) (rw0 q) (retM T rs q' r)) : MeetsM P G f q q' args r := by
  subst hN hrs
  refine ⟨enters_of hf hname hb, ?_⟩
  intro B v vs us w hB hown hus hr hG
  refine calls_of_wp hf hb ?_
  have hl := hr.length
  let ζ : Fr := ⟨w, B, v, rw0 q, fun _ => v, fun _ => none, []⟩
  have hrw : ∀ m, rw0 q m ≠ none → m = 0 := by
    intro m hm
    cases m with
    | zero => rfl
    | succ m => exact absurd rfl hm
  have hBk : ∀ b, B b → Bk ζ (fun _ => 0) (fun _ => none) w b := fun b hb => ⟨.inl hb, (hB b hb).1, fun nm hn => absurd rfl hn, fun nm hn => (hB b hb).2, (hB b hb).2⟩
  have r0 : R ζ fn.ntmps (fun _ => 0) (env0M args) (fun _ => none) { tmps := ⟨v :: vs⟩ ++ Array.replicate (fn.ntmps - (⟨v :: vs⟩ : Array Value).size) undef, defers := [] } w := by
    refine ⟨?_, grownBy_refl _ _, fun g hg => (hown.lt g hg).2, rfl, fun nm b hh => (by cases hh), ?_, (fun nm T cs hh => by cases hh), fun n m hn => absurd rfl hn, ?_, fun n m g hn hm _ _ => (hrw n hn).trans (hrw m hm).symm, fun n m hn hm => absurd rfl hm⟩
    · simp; omega
    · intro t
      cases t with
      | zero =>
        refine ⟨?_, ?_⟩
        · show rw0 q 0 ≠ none
          simp [rw0]
        · show ((⟨v :: vs⟩ ++ Array.replicate (fn.ntmps - (⟨v :: vs⟩ : Array Value).size) undef : Array Value).getD 0 undef) = v
          simp [Array.getD_eq_getD_getElem?, Array.getElem?_append]
      | succ t =>
        have := env0_rep hr (fn.ntmps - (⟨v :: vs⟩ : Array Value).size) hBk t
        have e1 : ((⟨v :: vs⟩ ++ Array.replicate (fn.ntmps - (⟨v :: vs⟩ : Array Value).size) undef : Array Value).getD (t + 1) undef) = ((⟨vs⟩ ++ Array.replicate (fn.ntmps - (⟨v :: vs⟩ : Array Value).size) undef : Array Value).getD t undef) := by
          simp [Array.getD_eq_getD_getElem?, Array.getElem?_append, Nat.add_sub_add_right]
        rw [e1]
        exact this
    · intro nm q1 hq
      cases nm with
      | succ m => cases hq
      | zero =>
        cases hq
        exact ⟨us, hown, RepL.mono (fun b hb => ⟨hBk b hb, rfl⟩) _ _ hus, rfl⟩
  refine wp_mono (vc_sound hmix tk c ζ _ _ _ _ _ w hG hc hv r0) ?_
  have fin : ∀ a' w', (∃ rv own e h ρ, R (ζ.rows ρ rv) fn.ntmps own e h a' w' ∧ resOf T fn.results.toList e h ρ = some r ∧ ρ 0 = some { q' with par := true }) → a'.defers = [] ∧ ∃ x, (results fn a'.tmps).run P w' = .ok x w' ∧ ∃ u us', Ending.returned x = .returned u ∧ RepP (fun b => (B b ∨ w.heap.size ≤ b) ∧ b < w'.heap.size ∧ v.ownBlock ≠ some b) w' r u ∧ w.grownBy w' v.ownBlock ∧ w'.ownsRow 0 q'.E q'.sz v q'.n us' ∧ RepL (fun b => (B b ∨ w.heap.size ≤ b) ∧ b < w'.heap.size ∧ v.ownBlock ≠ some b) w' q'.cs us' ∧ q'.par = q.par := by
    rintro a' w' ⟨rv, own, e, h, ρ, r', hres, hρ⟩
    obtain ⟨x, h1, h2⟩ := resOf_run (P := P) tk r' hres
    obtain ⟨us', g1, g2, g3⟩ := r'.row 0 _ hρ
    have g3 : rv 0 = v := g3
    have g1 : w'.ownsRow 0 q'.E q'.sz (rv 0) q'.n us' := g1
    rw [g3] at g1
    exact ⟨r'.defs, x, h1, x, us', rfl, RepP.mono (fun b hb => ⟨hb, rfl⟩) _ _ h2, r'.below, g1, RepL.mono (fun b hb => ⟨hb.res, rfl⟩) _ _ g2, hp⟩
  intro ex a' w' hq
  cases ex with
  | normal => exact fin a' w' hq
  | ret => exact fin a' w' hq
  | exit id => obtain ⟨_, _, _, _, _, _, hq⟩ := hq; exact hq.elim
  | goto l => exact hq.elim
  | panic ch => exact hq.elim
  | outgrown => exact hq.elim
end
end Go.Sx
