/- Operations whose answer hangs on values alone, worked out by one function, and why that function is right. It asks that a table of types is the program's. -/
import Derived.Test.YtipdohldogbmnaaDoorAb1
set_option autoImplicit false
set_option linter.unusedVariables false
set_option linter.unusedSimpArgs false
namespace Ab
open Go Go.RowKit

/-- Is a value one cell's? -/
def scA : AV → Bool
  | .v x => x.oneCell'
  | .z => true | .sl _ _ _ => true | .ref _ => true | .ifc _ _ => true | .fn _ _ _ => true
  | _ => false
theorem scA_ok {I : IMap} {a : AV} {x : Value} (h : Rel I a x) (hs : scA a = true) : x.oneCell' = true := by
  cases h <;> first | rfl | exact hs | cases hs
theorem scA_all {I : IMap} {ys : List AV} {vs : Array Value} (h : RelL I ys vs) (hs : ys.all scA = true) : ∀ i, i < ys.length → (vs.getD i undef).oneCell' = true := fun i hi => by
  have := h.2 i hi
  rw [List.getD_eq_getElem?_getD, List.getElem?_eq_getElem hi] at this
  exact scA_ok this (List.all_eq_true.1 hs _ (List.getElem_mem hi))
/-! ### The table of types -/
structure TI where
  desc : TypeDesc
  size : Nat
  bytes : Nat
  zero : List AV
inductive Tab where
  | nil
  | node (k : Nat) (v : TI) (l r : Tab)
def tlook : Tab → Nat → Option TI
  | .nil, _ => none
  | .node k v l r, i => bif Nat.beq k i then some v else bif Nat.blt i k then tlook l i else tlook r i
def tiOk (P : Program) (t : Nat) (i : TI) : Prop :=
  P.underlying t = some i.desc ∧ ∃ info z, P.info? t = some info ∧ info.size = i.size ∧ info.bytes = i.bytes ∧ info.zero = some z ∧ z.cells.toList.map AV.v = i.zero ∧ i.zero.length = i.size ∧ i.zero.all scA = true
structure TabOk (P : Program) (tt : Tab) : Prop where
  ok : ∀ t i, tlook tt t = some i → tiOk P t i

/-- A zero value's cells. -/
def RelZ (zs : List AV) (z : Value) : Prop := z.cells.toList.map AV.v = zs
theorem RelZ.rel {zs : List AV} {z : Value} (h : RelZ zs z) (I : IMap) : RelL I zs z.cells := by
  unfold RelZ at h
  subst h
  refine ⟨by simp, fun j hj => ?_⟩
  have hj' : j < z.cells.size := by simpa using hj
  rw [List.getD_eq_getElem?_getD, Array.getD_eq_getD_getElem?, List.getElem?_map, Array.getElem?_toList, Array.getElem?_eq_getElem hj']
  exact .v _
section runs
variable {P : Program} {tt : Tab} (T : TabOk P tt) {t : Nat} {i : TI} (h : tlook tt t = some i) (w : World)
include T h
theorem run_underlying : (underlying t).run P w = .ok i.desc w := by
  unfold underlying
  simp [(T.ok t i h).1]
theorem run_typeInfo : ∃ info z, (typeInfo t).run P w = .ok info w ∧ info.size = i.size ∧ info.bytes = i.bytes ∧ info.zero = some z ∧ z.cells.toList.map AV.v = i.zero ∧ i.zero.length = i.size ∧ i.zero.all scA = true := by
  obtain ⟨info, z, h1, h2⟩ := (T.ok t i h).2
  exact ⟨info, z, by unfold typeInfo; simp [h1], h2⟩
theorem run_sizeOf : (Go.sizeOf t).run P w = .ok i.size w := by
  obtain ⟨info, z, h1, h2, _⟩ := run_typeInfo T h w
  unfold Go.sizeOf
  simp [h1, h2]
theorem run_zeroValue : ∃ z, (zeroValue t).run P w = .ok z w ∧ RelZ i.zero z ∧ z.cells.size = i.size ∧ i.zero.all scA = true := by
  obtain ⟨info, z, h1, h2, h3, h4, h5⟩ := run_typeInfo T h w
  refine ⟨z, ?_, h5.1, by rw [← h5.2.1, ← h5.1]; simp, h5.2.2⟩
  unfold zeroValue
  simp [h1, h4]
def aggD : TypeDesc → Bool | .struct _ => true | .array _ _ => true | _ => false
theorem run_isAgg : (isAgg t).run P w = .ok (aggD i.desc) w := by
  unfold isAgg
  simp only [Sem.run_bind, run_underlying T h, Result.andThen_ok]
  cases i.desc <;> rfl
end runs

/-! ### Cells -/
def AV.cells : AV → Option (List AV)
  | .agg xs => some xs
  | .any => none
  | .v (.agg _) => none
  | .v x => some [.v x]
  | .z => some [.z]
  | .sl a b c => some [.sl a b c]
  | .ref xs => some [.ref xs]
  | .tup _ => none
  | .ifc t x => some [.ifc t x]
  | .fn f a b => some [.fn f a b]
theorem relL_one {I : IMap} {a : AV} {x : Value} (h : Rel I a x) : RelL I [a] #[x] := ⟨rfl, fun j hj => by
  have : j = 0 := by simp at hj; omega
  subst this; exact h⟩
theorem cells_ok {I : IMap} {a : AV} {x : Value} {xs : List AV} (h : Rel I a x) (hc : a.cells = some xs) : RelL I xs x.cells := by
  cases h with
  | any => cases hc
  | v => cases x <;> first | (cases hc; done) | (simp only [AV.cells, Option.some.injEq] at hc; subst hc; exact relL_one (.v _))
  | z a => simp only [AV.cells, Option.some.injEq] at hc; subst hc; exact relL_one (.z a)
  | sl0 s a c => simp only [AV.cells, Option.some.injEq] at hc; subst hc; exact relL_one (.sl0 s a c)
  | sl size n els b o c x hn hs h1 h2 h3 h4 => simp only [AV.cells, Option.some.injEq] at hc; subst hc; exact relL_one (.sl size n els b o c x hn hs h1 h2 h3 h4)
  | ref xs b o x h1 h2 => simp only [AV.cells, Option.some.injEq] at hc; subst hc; exact relL_one (.ref xs b o x h1 h2)
  | agg xs vs h1 h2 => simp only [AV.cells, Option.some.injEq] at hc; subst hc; exact ⟨h1, h2⟩
  | tup xs vs h1 h2 => cases hc
  | ifc t x y h => simp only [AV.cells, Option.some.injEq] at hc; subst hc; exact relL_one (.ifc t x y h)
  | fn f a b u w h1 h2 h3 h4 => simp only [AV.cells, Option.some.injEq] at hc; subst hc; exact relL_one (.fn f a b u w h1 h2 h3 h4)

/-- Cells written into cells, from a place on. -/
def spliceA (xs : List AV) (off : Nat) (ys : List AV) : List AV := xs.take off ++ ys ++ xs.drop (off + ys.length)
def fillA (place : Nat → Option (Nat × Nat)) (cells : List AV) : List (Nat × AV) → Option (List AV)
  | [] => some cells
  | (i, v) :: rest =>
    match place i, v.cells with
    | some (off, size), some ys => bif Nat.beq ys.length size && Nat.ble (off + ys.length) cells.length then fillA place (spliceA cells off ys) rest else none
    | _, _ => none

theorem foldl_set_size (vs : List (Value × Nat)) (off : Nat) (cs : Array Value) : (vs.foldl (fun cs (c, j) => cs.setIfInBounds (off + j) c) cs).size = cs.size := by
  induction vs generalizing cs with
  | nil => rfl
  | cons p r ih => simp only [List.foldl_cons]; rw [ih]; simp
theorem foldl_set_get (vs : List Value) (off k : Nat) (cs : Array Value) (hle : off + k + vs.length ≤ cs.size) (j : Nat) :
    ((vs.zipIdx k).foldl (fun cs (c, j) => cs.setIfInBounds (off + j) c) cs)[j]? = if off + k ≤ j ∧ j < off + k + vs.length then vs[j - (off + k)]? else cs[j]? := by
  induction vs generalizing k cs with
  | nil => simp; intro h1 h2; omega
  | cons v r ih =>
    simp only [List.zipIdx_cons, List.foldl_cons, List.length_cons] at *
    rw [ih (k + 1) (cs.setIfInBounds (off + k) v) (by simp; omega)]
    by_cases h1 : off + (k + 1) ≤ j ∧ j < off + (k + 1) + r.length
    · rw [if_pos h1, if_pos (by omega)]
      have : j - (off + k) = (j - (off + (k + 1))) + 1 := by omega
      rw [this, List.getElem?_cons_succ]
    · rw [if_neg h1]
      rw [Array.getElem?_setIfInBounds]
      by_cases h2 : off + k = j
      · subst h2
        rw [if_pos rfl, if_pos (by omega), if_pos (by omega)]
        simp
      · rw [if_neg h2, if_neg (by omega)]

theorem relL_splice {I : IMap} {xs ys : List AV} {cs : Array Value} {vs : Array Value} {off : Nat} (hx : RelL I xs cs) (hy : RelL I ys vs) (hle : off + ys.length ≤ xs.length) :
    RelL I (spliceA xs off ys) (vs.zipIdx.foldl (fun cs (c, j) => cs.setIfInBounds (off + j) c) cs) := by
  have e : (vs.zipIdx.foldl (fun cs (c, j) => cs.setIfInBounds (off + j) c) cs) = ((vs.toList.zipIdx 0).foldl (fun cs (c, j) => cs.setIfInBounds (off + j) c) cs) := by
    rw [← Array.foldl_toList]; congr 1; simp
  rw [e]
  have hl : vs.toList.length = ys.length := by simpa using hy.1
  refine ⟨?_, fun j hj => ?_⟩
  · rw [foldl_set_size, hx.1]; simp [spliceA]; omega
  · have hlen : (spliceA xs off ys).length = xs.length := by simp [spliceA]; omega
    rw [hlen] at hj
    have hg := foldl_set_get vs.toList off 0 cs (by rw [hl, hx.1]; omega) j
    rw [Array.getD_eq_getD_getElem?, hg]
    simp only [Nat.add_zero, hl]
    rw [List.getD_eq_getElem?_getD]
    have hs : (spliceA xs off ys)[j]? = if off ≤ j ∧ j < off + ys.length then ys[j - off]? else xs[j]? := by
      unfold spliceA
      rw [List.append_assoc, List.getElem?_append, List.length_take, List.getElem?_append, List.getElem?_take, List.getElem?_drop]
      have hm : min off xs.length = off := by omega
      rw [hm]
      by_cases h1 : j < off
      · have h3 : ¬ (off ≤ j ∧ j < off + ys.length) := by omega
        rw [if_pos h1, if_neg h3, if_pos h1]
      · rw [if_neg h1]
        by_cases h2 : j - off < ys.length
        · have h3 : off ≤ j ∧ j < off + ys.length := by omega
          rw [if_pos h2, if_pos h3]
        · have h3 : ¬ (off ≤ j ∧ j < off + ys.length) := by omega
          rw [if_neg h2, if_neg h3]
          congr 1; omega
    rw [hs]
    by_cases h1 : off ≤ j ∧ j < off + ys.length
    · rw [if_pos h1, if_pos h1]
      have := hy.2 (j - off) (by omega)
      rw [List.getD_eq_getElem?_getD, Array.getD_eq_getD_getElem?] at this
      simpa using this
    · rw [if_neg h1, if_neg h1]
      have := hx.2 j hj
      rw [List.getD_eq_getElem?_getD, Array.getD_eq_getD_getElem?] at this
      exact this

theorem fill_ok {I : IMap} (place : Nat → Option (Nat × Nat)) (ps : List (Nat × AV)) : ∀ (qs : List (Nat × Value)) (cells : List AV) (cs : Array Value) (out : List AV), RelL I cells cs →
    (ps.length = qs.length) → (∀ k, k < ps.length → (ps.getD k (0, .any)).1 = (qs.getD k (0, undef)).1 ∧ Rel I (ps.getD k (0, .any)).2 (qs.getD k (0, undef)).2) →
    fillA place cells ps = some out → ∃ o, Instr.fill place cs qs = some o ∧ RelL I out o := by
  induction ps with
  | nil =>
    intro qs cells cs out h hl hr hf
    cases qs with
    | nil => cases hf; exact ⟨cs, rfl, h⟩
    | cons q r => cases hl
  | cons p ps ih =>
    intro qs cells cs out h hl hr hf
    cases qs with
    | nil => cases hl
    | cons q qs =>
      obtain ⟨i, v⟩ := p
      obtain ⟨j, x⟩ := q
      have h0 := hr 0 (by simp)
      simp only [List.getD_cons_zero] at h0
      obtain ⟨h0a, h0⟩ := h0
      subst h0a
      simp only [fillA] at hf
      cases hp : place i with
      | none => rw [hp] at hf; cases hf
      | some os =>
        obtain ⟨off, size⟩ := os
        cases hc : v.cells with
        | none => rw [hp, hc] at hf; cases hf
        | some ys =>
          simp only [hp, hc] at hf
          have hcy := cells_ok h0 hc
          cases hb : (Nat.beq ys.length size && Nat.ble (off + ys.length) cells.length) with
          | false => rw [hb] at hf; cases hf
          | true =>
            rw [hb] at hf
            simp only [cond_true] at hf
            rw [Bool.and_eq_true] at hb
            have hb1 := Nat.eq_of_beq_eq_true hb.1
            have hb2 := Nat.le_of_ble_eq_true hb.2
            simp only [Instr.fill, hp]
            have e1 : x.cells.size = size := by rw [hcy.1]; exact hb1
            have e2 : off + x.cells.size ≤ cs.size := by rw [hcy.1, h.1]; exact hb2
            rw [if_neg (by simp [e1]; omega)]
            refine ih qs _ _ out (relL_splice h hcy hb2) (by simpa using hl) (fun k hk => ?_) hf
            have := hr (k + 1) (by simp; omega)
            simpa using this
end Ab
namespace Ab
open Go
def AllOk (P : Program) : Tab → Prop
  | .nil => True
  | .node k v l r => tiOk P k v ∧ AllOk P l ∧ AllOk P r
theorem tabOk_all {P : Program} {tt : Tab} (h : AllOk P tt) : TabOk P tt := by
  refine ⟨?_⟩
  induction tt with
  | nil => intro t i hi; cases hi
  | node k v l r il ir =>
    intro t i hi
    obtain ⟨h0, h1, h2⟩ := h
    simp only [tlook] at hi
    cases hb : Nat.beq k t with
    | true =>
      rw [hb] at hi
      have := Nat.eq_of_beq_eq_true hb
      subst this
      cases hi; exact h0
    | false =>
      rw [hb] at hi
      cases hc : Nat.blt t k with
      | true => rw [hc] at hi; exact il h1 t i hi
      | false => rw [hc] at hi; exact ir h2 t i hi
theorem tiOk_of {P : Program} {t : Nat} {i : TI} (h1 : P.underlying t = some i.desc)
    (h2 : (P.info? t).map (fun i => (i.size, i.bytes, i.zero.map fun z => z.cells.toList.map AV.v)) = some (i.size, i.bytes, some i.zero)) (h3 : (Nat.beq i.zero.length i.size && i.zero.all scA) = true) : tiOk P t i := by
  refine ⟨h1, ?_⟩
  cases hi : P.info? t with
  | none => rw [hi] at h2; cases h2
  | some info =>
    rw [hi] at h2
    simp only [Option.map_some, Option.some.injEq, Prod.mk.injEq] at h2
    obtain ⟨a, b, c⟩ := h2
    cases hz : info.zero with
    | none => rw [hz] at c; cases c
    | some z =>
      rw [hz] at c
      simp only [Option.map_some, Option.some.injEq] at c
      rw [Bool.and_eq_true] at h3
      exact ⟨info, z, rfl, a, b, hz, c, Nat.eq_of_beq_eq_true h3.1, h3.2⟩
end Ab
