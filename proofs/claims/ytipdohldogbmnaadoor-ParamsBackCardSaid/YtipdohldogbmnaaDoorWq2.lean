/- ParamsBack: what is written as params is read as it was, for every input; the tables of math/bits are as the program's text lays them. -/
import Derived.Test.YtipdohldogbmnaaDoorWq1
import Derived.Test.YtipdohldogbmnaaDoorAb28
import Derived.Test.YtipdohldogbmnaaDoorCards
import Derived.Test.YtipdohldogbmnaaDoorTie
import Derived.SevenTiedAt
set_option autoImplicit false
set_option linter.unusedVariables false
set_option maxRecDepth 100000
set_option maxHeartbeats 1000000
set_option linter.unusedSimpArgs false
namespace Go.Proofs.YtipdohldogbmnaaDoor
open Go Go.ChangeShapes Go.WideShapes Go.ChangeAt Go.RowKit Ab
theorem gTab : Tryd.prog.globalNamed "math/bits.deBruijn64tab" = some 1 := by kernel_rfl
theorem ownK : ownKnob Tryd.prog.godebug = none := by kernel_rfl
theorem laidOutP : laidOutB Tryd.prog = true := by kernel_rfl
abbrev laid2 : List (String × DataW Unit) := [("math/bits.deBruijn32tab", Rows.laid_math_bits_deBruijn32tab), ("math/bits.deBruijn64tab", Rows.laid_math_bits_deBruijn64tab)]
theorem door_met (os : Os) (args : Array Value) : laidMetH Tryd.prog laid2 ((World.doorLaid Tryd.prog 400 os).forCall (fun _ _ => 0) ⟨#[], args, []⟩).memory :=
  laidMetH_of_parts3 (fuel := 8) (laidMet_of_run' 8 (by kernel_rfl) (by kernel_rfl)) (by kernel_rfl) (by kernel_rfl)
theorem tGlob : (Tryd.prog.globals[1]?).map (·.type) = some 91 := by kernel_rfl
theorem tzOf {W : World} (h : laidMetH Tryd.prog laid2 W) : Tz W 1 := by
  rw [MakeChecks.laidMetH_plain _ _ _ (by kernel_rfl)] at h
  obtain ⟨ps, h1, _⟩ := h
  exact tz_of_laid gTab tGlob Tryd.underlying91 Tryd.underlying5 (by kernel_rfl) rfl rfl rfl rfl h1
/-- The params that came in. -/
theorem par_opened {H : Type} {enc : TypeId × Value → H} {W : World} {sp : Nat → Bool} {held : Bool} {fuel base : Nat} {cs : Array Value} {x : DataW H × List MemPlace} (h : DataW.trod enc Tryd.prog W base sp held fuel 33 (Value.agg cs).cells.toList = some x) (hn : cs.size = 10) :
    ∃ p : Par, Rel (allI W) (.agg p.cells) (.agg cs) := by
  obtain ⟨n, hf⟩ := fields_of Tryd.underlying33 h
  obtain ⟨i0, r0, _⟩ := fld_int Tryd.underlying3 (hf 0 _ rfl)
  obtain ⟨i1, r1, _⟩ := fld_int Tryd.underlying3 (hf 1 _ rfl)
  obtain ⟨b2, r2⟩ := fld_bool Tryd.underlying4 (hf 2 _ rfl)
  obtain ⟨b3, r3⟩ := fld_bool Tryd.underlying4 (hf 3 _ rfl)
  obtain ⟨b4, r4⟩ := fld_bool Tryd.underlying4 (hf 4 _ rfl)
  obtain ⟨l5, r5⟩ := fld_bytes Tryd.underlying22 Tryd.underlying5 (by kernel_rfl) (hf 5 _ rfl)
  obtain ⟨l6, r6⟩ := fld_bytes Tryd.underlying22 Tryd.underlying5 (by kernel_rfl) (hf 6 _ rfl)
  obtain ⟨l7, r7⟩ := fld_bytes Tryd.underlying22 Tryd.underlying5 (by kernel_rfl) (hf 7 _ rfl)
  obtain ⟨i8, r8, _⟩ := fld_int Tryd.underlying3 (hf 8 _ rfl)
  obtain ⟨l9, r9⟩ := fld_ints Tryd.underlying23 Tryd.underlying3 (by kernel_rfl) (hf 9 _ rfl)
  refine ⟨⟨i0, i1, b2, b3, b4, l5, l6, l7, i8, l9⟩, rel_agg hn fun j hj => ?_⟩
  have hj' : j < 10 := hj
  rcases j with _ | _ | _ | _ | _ | _ | _ | _ | _ | _ | j
  · exact r0
  · exact r1
  · exact r2
  · exact r3
  · exact r4
  · exact r5
  · exact r6
  · exact r7
  · exact r8
  · exact r9
  · omega
theorem lifted (os : Os) (started : os.Started) (H : Type) (enc : TypeId × Value → H) :
    ReturnsInHanded {} Tryd.checked os 4 .any (fun w args => (Rows.paramsBackSpec.pre enc Tryd.prog Tryd.f4 [] false w args ∧ laidMetH Tryd.prog laid2 w) ∧ sizedMet enc Tryd.prog Tryd.f4 (OpenSpec.ofChange Rows.paramsBackSpec) false w args)
      (Rows.paramsBackSpec.post enc Tryd.prog Tryd.f4 false true false false) := by
  refine returnsInHanded_of_change_and (C := Tryd.checked) (X := fun w _ => laidMetH Tryd.prog laid2 w) (fun _ _ _ hh h => h.of_heap hh) ownK started (by kernel_rfl) Tryd.func4
    (ChangeSpec.witness_shaped (enc := enc) (C := Tryd.checked) (os := os) (X := fun w _ => laidMetH Tryd.prog laid2 w) false (World.doorLaid Tryd.prog 400 os) #[.agg #[.int .i64 0, .int .i64 0, .bool false, .bool false, .bool false, .slice none 0 0, .slice none 0 0, .slice none 0 0, .int .i64 0, .slice none 0 0]] 8 rfl (World.shaped_of_RefB (by kernel_rfl) (by kernel_rfl)) (by kernel_rfl) (by kernel_rfl) (by kernel_rfl) (door_met os _)) ?_
  intro W base args ds gs before hval0 hW _ _ hL _
  have hW' := hW
  obtain ⟨p, q, hA0, hV, rfl, hfz, hnd⟩ := hW
  have hA : DataW.TrodAll enc Tryd.prog W 0 (fun _ => true) true Tryd.f4.params.toList args.toList ds p := hA0
  rw [Tryd.params4] at hA
  obtain ⟨v0, d0, rfl, rfl, h0⟩ := trodAll_one hA
  obtain ⟨rfl, rfl⟩ := trodVars_none hV
  obtain ⟨fuel, h0⟩ := h0
  obtain ⟨cs, rfl, hcs⟩ := okWide_struct Tryd.underlying33 (hval0 0 33 v0 (by rw [Tryd.params4]; rfl) rfl)
  obtain ⟨p0, hr⟩ := par_opened h0 (by rw [hcs]; kernel_rfl)
  refine (law_run (back07_ok W (tzOf hL) p0) (relL_one hr)).mono fun e W' ⟨he, hb⟩ => ?_
  exact ⟨_, he, law_close (f := Tryd.f4) (s := Rows.paramsBackSpec) laidOutP hW' rfl rfl Tryd.underlying4 rfl (by kernel_rfl) hb⟩
theorem paramsBack_said : Rows.ParamsBackSaid :=
  OpenClaim.holds_of_wide 4 Tryd.f4 rfl rfl rfl rfl rfl rfl rfl ⟨rfl, rfl, rfl, rfl, rfl⟩ rfl rfl rfl rfl rfl (by kernel_rfl) Tryd.func4 (by kernel_rfl)
    (of_decide_eq_true (by kernel_rfl)) (by unfold Func.isWrapper; first | (rw [if_pos (by decide +kernel)]; kernel_rfl) | (rw [if_neg (by decide +kernel)]; exact ⟨rfl, rfl⟩))
    (fun os started H enc _ => lifted os started H enc)
/-- The statement. -/
theorem paramsBack_card : Rows.ParamsBackCardSaid :=
  Claim7.holds_tied_plain_at .later [] [.data, .data] true (true, "032c2cf56ae77fd65c01e0d27f8a190bfc3e858ec48b513bdd13735000937a38") true
    paramsBack_said (fun _ h => by cases h) (by kernel_rfl) (fun _ h => by cases h) paramsBack_row_tie rfl ⟨rfl, rfl⟩ (by kernel_rfl) rfl
    (fun f fn hf hfn => by
      obtain rfl : f = 4 := Option.some.inj ((show Tryd.prog.funcNamed "shibboleth/shibbolethlaw07.ParamsBack" = some 4 by kernel_rfl).symm.trans hf) |>.symm
      obtain rfl : fn = Tryd.f4 := (Option.some.inj (Tryd.func4.symm.trans hfn)).symm
      exact ⟨by kernel_rfl, fun j t ht => by
        rw [Tryd.params4] at ht
        have h3 : t = 33 := by
          rcases j with _ | j
          · simpa using ht.symm
          · simp at ht
        subst h3
        exact (show Tryd.prog.wantsStandIn 33 = false by kernel_rfl)⟩)
    (by kernel_rfl)
#print axioms paramsBack_card
end Go.Proofs.YtipdohldogbmnaaDoor
