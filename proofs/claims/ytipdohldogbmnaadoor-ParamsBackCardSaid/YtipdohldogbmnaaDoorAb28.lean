/- The fields of a struct that came in, one cell each. It asks nothing. -/
import Derived.Test.YtipdohldogbmnaaDoorAb27
set_option autoImplicit false
set_option linter.unusedVariables false
set_option linter.unusedSimpArgs false
namespace Ab
open Go Go.RowKit Go.ChangeShapes Go.WideShapes
section
variable {H : Type} {enc : TypeId × Value → H} {P : Program} {W : World} {sp : Nat → Bool} {held : Bool} {fuel base : Nat}
theorem cell_of {cs : List Value} {o m : Nat} {v : Value} (h : (cs.drop o).take m = [v]) : cs.getD o undef = v := by
  have h0 : ((cs.drop o).take m)[0]? = some v := by rw [h]; rfl
  rw [List.getElem?_take] at h0
  split at h0
  · rw [List.getElem?_drop, Nat.add_zero] at h0
    rw [List.getD_eq_getElem?_getD, h0]; rfl
  · cases h0
theorem fields_of {t : TypeId} {fs : Array Field} {cs : List Value} {x : DataW H × List MemPlace} (ht : P.underlying t = some (.struct fs)) (h : DataW.trod enc P W base sp held fuel t cs = some x) :
    ∃ n, ∀ (i : Nat) (f : Field), fs[i]? = some f → ∃ y, DataW.trod enc P W base sp held n f.type ((cs.drop f.offset).take (P.cellsOf f.type)) = some y := by
  obtain ⟨xs, n, rfl, _, _, hl, hf⟩ := DataW.trod_struct ht h
  refine ⟨n, fun i f hi => ?_⟩
  have hlt : i < fs.size := by
    rcases Nat.lt_or_ge i fs.size with h1 | h1
    · exact h1
    · rw [Array.getElem?_eq_none h1] at hi; cases hi
  exact ⟨xs[i], by rw [hf i f hi, List.getElem?_eq_getElem (by omega)]⟩
theorem fld_int {t : TypeId} {k : IntKind} {cs : List Value} {o m : Nat} (ht : P.underlying t = some (.int k)) (h : ∃ y, DataW.trod enc P W base sp held fuel t ((cs.drop o).take m) = some y) : ∃ n, Rel (allI W) (.v (.int k n)) (cs.getD o undef) ∧ (Lit.int k n).wf = true := by
  obtain ⟨y, h⟩ := h
  obtain ⟨n, h1, _, h3⟩ := DataW.trod_int ht h
  exact ⟨n, by rw [cell_of h1]; exact .v _, h3⟩
theorem fld_bool {t : TypeId} {cs : List Value} {o m : Nat} (ht : P.underlying t = some .bool) (h : ∃ y, DataW.trod enc P W base sp held fuel t ((cs.drop o).take m) = some y) : ∃ b, Rel (allI W) (.v (.bool b)) (cs.getD o undef) := by
  obtain ⟨y, h⟩ := h
  obtain ⟨b, h1, _⟩ := DataW.trod_bool ht h
  exact ⟨b, by rw [cell_of h1]; exact .v _⟩
theorem fld_bytes {t e : TypeId} {cs : List Value} {o m : Nat} (ht : P.underlying t = some (.slice e)) (he : P.underlying e = some (.int .u8)) (hc : P.cellsOf e = 1) (h : ∃ y, DataW.trod enc P W base sp held fuel t ((cs.drop o).take m) = some y) : ∃ bs, Rel (allI W) (aB bs) (cs.getD o undef) := by
  obtain ⟨y, h⟩ := h
  obtain ⟨bs, v, h1, h2⟩ := rel_bytes ht he hc h
  exact ⟨bs, by rw [cell_of h1]; exact h2⟩
theorem fld_ints {t e : TypeId} {k : IntKind} {cs : List Value} {o m : Nat} (ht : P.underlying t = some (.slice e)) (he : P.underlying e = some (.int k)) (hc : P.cellsOf e = 1) (h : ∃ y, DataW.trod enc P W base sp held fuel t ((cs.drop o).take m) = some y) :
    ∃ zs : List Int, Rel (allI W) (.sl 1 zs.length (zs.map fun z => [.v (.int k z)])) (cs.getD o undef) := by
  obtain ⟨y, h⟩ := h
  obtain ⟨zs, v, h1, _, h2⟩ := rel_ints ht he hc h
  exact ⟨zs, by rw [cell_of h1]; exact h2⟩
theorem rel_agg {xs : List AV} {cs : Array Value} (hn : cs.size = xs.length) (hr : ∀ j, j < xs.length → Rel (allI W) (xs.getD j .any) (cs.toList.getD j undef)) : Rel (allI W) (.agg xs) (.agg cs) :=
  .agg xs cs hn fun j hj => by
    have := hr j hj
    rw [List.getD_eq_getElem?_getD (l := cs.toList), Array.getElem?_toList] at this
    rwa [Array.getD_eq_getD_getElem?]
end
end Ab
