/- What was added can be removed, and the list is the one before; Total has grown by just this weight. -/
import Derived.Test.YtnlabeglboomlaaGreatDoorV31
import Derived.Test.YtnlabeglboomlaaGreatDoorRows
import Derived.Test.YtnlabeglboomlaaGreatDoorTie
import Derived.Test.YtnlabeglboomlaaGreatDoorCards
import Derived.SevenTiedAt
import Derived.ProofKit
import Derived.LaidMore
import Derived.Lay
import Derived.LaidSub
import Derived.Lib.LaidTab
import Derived.Stop.Joined
set_option linter.unusedVariables false
set_option linter.unusedSimpArgs false
set_option linter.unusedSectionVars false
namespace Go.Proofs.YtnlabeglboomlaaGreatDoor.S
open Go Go.Sx Go.RowKit Gb Go.Shelf Go.ChangeShapes Go.WideShapes Go.ChangeAt
theorem own : ownKnob Tryz.prog.godebug = none := by kernel_rfl
theorem laidOut : laidOutB Tryz.prog = true := by kernel_rfl
def laidL : List (String × DataW Unit) := Rows.ledgerUndoneRow.laid
theorem door_met (os : Os) (args : Array Value) : laidMetH Tryz.prog laidL ((World.laidAll Tryz.prog os laidL).forCall (fun _ _ => 0) ⟨#[], args, []⟩).memory :=
  (MakeChecks.laidMetH_plain _ _ _ (by kernel_rfl)).symm ▸ laidMet_laidAll args (by kernel_rfl) (by kernel_rfl)
theorem gT : ∃ g, Tryz.prog.globalNamed "internal/strconv.uint64pow10" = some g ∧ (Tryz.prog.globals[g]?).map (·.type) = some 272 := by
  have h : (Tryz.prog.globalNamed "internal/strconv.uint64pow10").bind (fun g => (Tryz.prog.globals[g]?).map (·.type)) = some 272 := by kernel_rfl
  obtain ⟨g, h1, h2⟩ := Option.bind_eq_some_iff.1 h
  exact ⟨g, h1, h2⟩
theorem celU : Tryz.prog.cellsOf 124 = 1 := by kernel_rfl
theorem celA : Tryz.prog.cellsOf 272 = 20 := by kernel_rfl
theorem gd_of_laid {W : World} (h : laidMetH Tryz.prog laidL W) : Gd W := by
  have h2 := h.filter fun x => x.1 == "internal/strconv.uint64pow10"
  rw [MakeChecks.laidMetH_plain _ _ _ (by kernel_rfl)] at h2
  obtain ⟨g, h3, h4⟩ := gT
  exact Lib.tabIs_of_head (rest := []) h3 h4 Tryz.underlying272 Tryz.underlying124 celU celA h2
set_option maxRecDepth 100000 in
theorem row_lifted (os : Os) (started : os.Started) (H : Type) (enc : TypeId × Value → H) :
    ReturnsInHanded {} Tryz.checked os 7 .any (fun w args => (Rows.ledgerUndoneSpec.pre enc Tryz.prog Tryz.f7 [] false w args ∧ laidMetH Tryz.prog laidL w) ∧ sizedMet enc Tryz.prog Tryz.f7 (OpenSpec.ofChange Rows.ledgerUndoneSpec) false w args)
      (Rows.ledgerUndoneSpec.post enc Tryz.prog Tryz.f7 false true false false) := by
  refine returnsInHanded_of_change_and (C := Tryz.checked) (X := fun w _ => laidMetH Tryz.prog laidL w) (fun _ _ _ hh h => h.of_heap hh) own started (by kernel_rfl) Tryz.func7
    (ChangeSpec.witness_shaped (enc := enc) (C := Tryz.checked) (os := os) (X := fun w _ => laidMetH Tryz.prog laidL w) false (World.laidAll Tryz.prog os laidL) #[.slice none 0 0, .agg #[.string ⟨#[]⟩, .string ⟨#[]⟩, .string ⟨#[]⟩, .string ⟨#[]⟩, .string ⟨#[]⟩, .string ⟨#[]⟩, .string ⟨#[]⟩]] 8 rfl (World.shaped_of_ZipB (by kernel_rfl) (by kernel_rfl)) (by kernel_rfl) (by kernel_rfl) (by kernel_rfl) (door_met os _)) ?_
  rintro W base ⟨args⟩ ds gs before hval0 hW _ _ hL _
  have hval : ∀ (j : Nat) t v, Tryz.f7.params.toList[j]? = some t → args[j]? = some v → Value.okWide Tryz.prog W .any base t v := fun j t v h1 h2 => hval0 j t v (by simpa using h1) (by simpa using h2)
  have hW' := hW
  obtain ⟨p, q, hA0, hV, rfl, hfz, hnd⟩ := hW
  have hC := law_calls (G := Gd) (f := 7) (l := [.sl (.agg [.str, .str, .agg [.str, .str, .str], .str, .str]), .agg [.str, .str, .agg [.str, .str, .str], .str, .str]]) (by kernel_rfl) undone_law hval hA0 (gd_of_laid hL)
  have hT := fun W' hb => below_trodAll (W' := W') laidOut hb (by kernel_rfl) hA0
  obtain ⟨rfl, rfl⟩ := trodVars_none hV
  simp only [List.append_nil] at hW'
  replace hA0 : DataW.TrodAll enc Tryz.prog W 0 (fun _ => true) true Tryz.f7.params.toList args ds p := hA0
  rw [Tryz.params7] at hA0
  obtain ⟨v0, vs0, d0, ds0, p0, q0, e0, rfl, rfl, _, hA0⟩ := trodAll_cons hA0
  obtain ⟨v1, vs1, d1, ds1, p1, q1, e1, rfl, rfl, _, hA0⟩ := trodAll_cons hA0
  obtain ⟨_, rfl, rfl⟩ := trodAll_nil hA0
  refine hC.mono fun e W' ⟨he, hb⟩ => ?_
  subst he
  exact ⟨_, rfl, _, _, _, [], _, [], hW', trodAll_mk1 (shut_bool Tryz.underlying4 _), hT W' hb, rfl, hb.frame _, fun h => by cases h⟩
theorem row_holds : Rows.LedgerUndoneSaid :=
  OpenClaim.holds_of_wide 7 Tryz.f7 rfl rfl rfl rfl rfl rfl rfl ⟨rfl, rfl, rfl, rfl, rfl⟩ rfl rfl rfl rfl rfl (by kernel_rfl) Tryz.func7 (by kernel_rfl)
    (of_decide_eq_true (by kernel_rfl)) (by unfold Func.isWrapper; first | (rw [if_pos (by decide +kernel)]; kernel_rfl) | (rw [if_neg (by decide +kernel)]; exact ⟨rfl, rfl⟩))
    (fun os started H enc _ => row_lifted os started H enc)
theorem stand (j : Nat) (t : TypeId) (ht : Tryz.f7.params[j]? = some t) : Tryz.prog.wantsStandIn t = false := by
  have h : (Tryz.f7.params.toList.all fun t => !Tryz.prog.wantsStandIn t) = true := by kernel_rfl
  have := List.all_eq_true.1 h t (List.mem_of_getElem? (i := j) (by simpa using ht))
  simpa using this
theorem card : Rows.LedgerUndoneCardSaid :=
  Claim7.holds_tied_plain_at .later [] [.data, .data, .data, .data, .sentinel, .sentinel, .pinned] true (true, "d1b3f3366f7d554a8603a12f1889b7c7e73d85650dcd79a9cb5bebc6dd8f1f8e") true
    row_holds (fun _ h => by cases h) (by kernel_rfl) (fun _ h => by cases h) ledgerUndone_row_tie rfl ⟨rfl, rfl⟩ (by kernel_rfl) rfl
    (fun f fn hf hfn => by
      obtain rfl : f = 7 := Option.some.inj ((show Tryz.prog.funcNamed "garboard/garboardlaw24.LedgerUndone" = some 7 by kernel_rfl).symm.trans hf) |>.symm
      obtain rfl : fn = Tryz.f7 := (Option.some.inj (Tryz.func7.symm.trans hfn)).symm
      exact ⟨by kernel_rfl, stand⟩)
    (by kernel_rfl)
end Go.Proofs.YtnlabeglboomlaaGreatDoor.S
