/- ParamsAgain: what is read as params is written as it was, for every input; the tables of math/bits are as the program's text lays them. -/
import Derived.Test.YtipdohldogbmnaaDoorWp7
import Derived.Test.YtipdohldogbmnaaDoorAb27
import Derived.Test.YtipdohldogbmnaaDoorCards
import Derived.Test.YtipdohldogbmnaaDoorTie
import Derived.SevenTiedAt
set_option autoImplicit false
set_option linter.unusedVariables false
set_option maxRecDepth 100000
set_option maxHeartbeats 1000000
set_option linter.unusedSimpArgs false
namespace Go.Proofs.YtipdohldogbmnaaDoor
open Go Go.ChangeShapes Go.WideShapes Go.ChangeAt Go.RowKit Ab
theorem gTab : Tryd.prog.globalNamed "math/bits.deBruijn64tab" = some 1 := by kernel_rfl
theorem ownK : ownKnob Tryd.prog.godebug = none := by kernel_rfl
theorem laidOutP : laidOutB Tryd.prog = true := by kernel_rfl
abbrev laid2 : List (String × DataW Unit) := [("math/bits.deBruijn32tab", Rows.laid_math_bits_deBruijn32tab), ("math/bits.deBruijn64tab", Rows.laid_math_bits_deBruijn64tab)]
theorem door_met (os : Os) (args : Array Value) : laidMetH Tryd.prog laid2 ((World.doorLaid Tryd.prog 400 os).forCall (fun _ _ => 0) ⟨#[], args, []⟩).memory :=
  laidMetH_of_parts3 (fuel := 8) (laidMet_of_run' 8 (by kernel_rfl) (by kernel_rfl)) (by kernel_rfl) (by kernel_rfl)
theorem tGlob : (Tryd.prog.globals[1]?).map (·.type) = some 91 := by kernel_rfl
theorem tzOf {W : World} (h : laidMetH Tryd.prog laid2 W) : Tz W 1 := by
  rw [MakeChecks.laidMetH_plain _ _ _ (by kernel_rfl)] at h
  obtain ⟨ps, h1, _⟩ := h
  exact tz_of_laid gTab tGlob Tryd.underlying91 Tryd.underlying5 (by kernel_rfl) rfl rfl rfl rfl h1
theorem lifted (os : Os) (started : os.Started) (H : Type) (enc : TypeId × Value → H) :
    ReturnsInHanded {} Tryd.checked os 3 .any (fun w args => (Rows.paramsAgainSpec.pre enc Tryd.prog Tryd.f3 [] false w args ∧ laidMetH Tryd.prog laid2 w) ∧ sizedMet enc Tryd.prog Tryd.f3 (OpenSpec.ofChange Rows.paramsAgainSpec) false w args)
      (Rows.paramsAgainSpec.post enc Tryd.prog Tryd.f3 false true false false) := by
  refine returnsInHanded_of_change_and (C := Tryd.checked) (X := fun w _ => laidMetH Tryd.prog laid2 w) (fun _ _ _ hh h => h.of_heap hh) ownK started (by kernel_rfl) Tryd.func3
    (ChangeSpec.witness_shaped (enc := enc) (C := Tryd.checked) (os := os) (X := fun w _ => laidMetH Tryd.prog laid2 w) false (World.doorLaid Tryd.prog 400 os) #[.slice none 0 0] 8 rfl (World.shaped_of_RefB (by kernel_rfl) (by kernel_rfl)) (by kernel_rfl) (by kernel_rfl) (by kernel_rfl) (door_met os _)) ?_
  intro W base args ds gs before hval0 hW _ _ hL _
  have hW' := hW
  obtain ⟨p, q, hA0, hV, rfl, hfz, hnd⟩ := hW
  have hA : DataW.TrodAll enc Tryd.prog W 0 (fun _ => true) true Tryd.f3.params.toList args.toList ds p := hA0
  rw [Tryd.params3] at hA
  obtain ⟨v0, d0, rfl, rfl, h0⟩ := trodAll_one hA
  obtain ⟨rfl, rfl⟩ := trodVars_none hV
  obtain ⟨fuel, h0⟩ := h0
  obtain ⟨bs, v, hv, hr⟩ := rel_bytes Tryd.underlying22 Tryd.underlying5 (by kernel_rfl) h0
  obtain ⟨a, m, c, rfl⟩ := okWide_slice Tryd.underlying22 (hval0 0 22 v0 (by rw [Tryd.params3]; rfl) rfl)
  have hvv : Value.slice a m c = v := by simpa [Value.cells] using hv
  subst hvv
  refine (law_run (again07_ok W (tzOf hL) bs) (relL_one hr)).mono fun e W' ⟨he, hb⟩ => ?_
  exact ⟨_, he, law_close (f := Tryd.f3) (s := Rows.paramsAgainSpec) laidOutP hW' rfl rfl Tryd.underlying4 rfl (by kernel_rfl) hb⟩
theorem paramsAgain_said : Rows.ParamsAgainSaid :=
  OpenClaim.holds_of_wide 3 Tryd.f3 rfl rfl rfl rfl rfl rfl rfl ⟨rfl, rfl, rfl, rfl, rfl⟩ rfl rfl rfl rfl rfl (by kernel_rfl) Tryd.func3 (by kernel_rfl)
    (of_decide_eq_true (by kernel_rfl)) (by unfold Func.isWrapper; first | (rw [if_pos (by decide +kernel)]; kernel_rfl) | (rw [if_neg (by decide +kernel)]; exact ⟨rfl, rfl⟩))
    (fun os started H enc _ => lifted os started H enc)
/-- The statement. -/
theorem paramsAgain_card : Rows.ParamsAgainCardSaid :=
  Claim7.holds_tied_plain_at .later [] [.data, .data] true (true, "032c2cf56ae77fd65c01e0d27f8a190bfc3e858ec48b513bdd13735000937a38") true
    paramsAgain_said (fun _ h => by cases h) (by kernel_rfl) (fun _ h => by cases h) paramsAgain_row_tie rfl ⟨rfl, rfl⟩ (by kernel_rfl) rfl
    (fun f fn hf hfn => by
      obtain rfl : f = 3 := Option.some.inj ((show Tryd.prog.funcNamed "shibboleth/shibbolethlaw07.ParamsAgain" = some 3 by kernel_rfl).symm.trans hf) |>.symm
      obtain rfl : fn = Tryd.f3 := (Option.some.inj (Tryd.func3.symm.trans hfn)).symm
      exact ⟨by kernel_rfl, fun j t ht => by
        rw [Tryd.params3] at ht
        have h3 : t = 22 := by
          rcases j with _ | j
          · simpa using ht.symm
          · simp at ht
        subst h3
        exact (show Tryd.prog.wantsStandIn 22 = false by kernel_rfl)⟩)
    (by kernel_rfl)
#print axioms paramsAgain_card
end Go.Proofs.YtipdohldogbmnaaDoor
