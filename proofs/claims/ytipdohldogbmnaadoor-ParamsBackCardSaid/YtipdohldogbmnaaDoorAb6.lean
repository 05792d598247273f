/- The rules for memory: loads, stores, new variables, places in slices and arrays. They ask that a table of types is the program's. -/
import Derived.Test.YtipdohldogbmnaaDoorAb5
set_option autoImplicit false
set_option linter.unusedVariables false
set_option linter.unusedSimpArgs false
namespace Ab
open Go Go.RowKit

theorem add_at (b o n : Nat) : (⟨b, o, none⟩ : Addr).add n = ⟨b, o + n, none⟩ := by
  unfold Addr.add; split <;> simp_all

/-! ### Loads -/
theorem run_loadCellsFrom (P : Program) (w : World) (b o : Nat) (x : Nat → Value) : ∀ (k i : Nat) (acc : Array Value), (∀ j, j < k → w.cell? ⟨b, o + (i + j), none⟩ = some (x (i + j))) →
    (loadCellsFrom ⟨b, o, none⟩ i k acc).run P w = .ok (acc ++ ((List.range k).map fun j => x (i + j)).toArray) w := by
  intro k
  induction k with
  | zero => intro i acc h; simp [loadCellsFrom]
  | succ k ih =>
    intro i acc h
    have h0 := h 0 (by omega)
    simp only [Nat.add_zero] at h0
    simp only [loadCellsFrom, Sem.run_bind, add_at, run_load, h0, Result.andThen_ok]
    rw [ih (i + 1) (acc.push (x i)) (fun j hj => by
      have := h (j + 1) (by omega)
      rw [show i + 1 + j = i + (j + 1) by omega]; exact this)]
    congr 1
    rw [List.range_succ_eq_map]
    simp only [List.map_cons, List.map_map, Nat.add_zero]
    rw [List.toArray_cons, ← Array.append_assoc]
    congr 3
    funext j
    simp only [Function.comp]
    congr 1; omega
theorem run_loadCells (P : Program) (w : World) (b o k : Nat) (x : Nat → Value) (h : ∀ j, j < k → w.cell? ⟨b, o + j, none⟩ = some (x j)) :
    (loadCells ⟨b, o, none⟩ k).run P w = .ok ((List.range k).map x).toArray w := by
  have := run_loadCellsFrom P w b o x k 0 #[] (fun j hj => by simpa using h j hj)
  simpa [loadCells] using this

theorem relL_range {I : IMap} {xs : List AV} {k : Nat} (x : Nat → Value) (hk : k = xs.length) (h : ∀ j, j < xs.length → Rel I (xs.getD j .any) (x j)) : RelL I xs ((List.range k).map x).toArray := by
  subst hk
  refine ⟨by simp, fun j hj => ?_⟩
  have e : ((List.range xs.length).map x).toArray.getD j undef = x j := by
    simp [Array.getD_eq_getD_getElem?, hj]
  rw [e]; exact h j hj

/-- What a variable of a type holds whose first cells are known. -/
def loadA (i : TI) (xs : List AV) : Option AV := bif aggD i.desc then (bif Nat.ble i.size xs.length then some (.agg (xs.take i.size)) else none) else xs[0]?

section
variable {P : Program} {tt : Tab} (T : TabOk P tt) {I : IMap}
include T
theorem run_loadVar {t : TypeId} {i : TI} (hi : tlook tt t = some i) {w : World} {b o : Nat} {xs : List AV} {av : AV} (x : Nat → Value) (hc : ∀ j, j < xs.length → w.cell? ⟨b, o + j, none⟩ = some (x j))
    (hr : ∀ j, j < xs.length → Rel I (xs.getD j .any) (x j)) (h : loadA i xs = some av) : ∃ v, (loadVar t ⟨b, o, none⟩).run P w = .ok v w ∧ Rel I av v := by
  unfold loadA at h
  simp only [loadVar, Sem.run_bind, run_isAgg T hi, Result.andThen_ok]
  cases hd : aggD i.desc with
  | true =>
    rw [hd] at h
    simp only [cond_true] at h
    cases hb : Nat.ble i.size xs.length with
    | false => rw [hb] at h; cases h
    | true =>
      rw [hb] at h; cases h
      have hle := Nat.le_of_ble_eq_true hb
      have h1 := run_loadCells P w b o i.size x (fun j hj => hc j (by omega))
      refine ⟨.agg ((List.range i.size).map x).toArray, by simp [run_sizeOf T hi, h1], ?_⟩
      have h2 := relL_range (I := I) (xs := xs.take i.size) (k := i.size) x (by simp; omega) (fun j hj => by
        have hj' : j < i.size := by simp at hj; omega
        have := hr j (by omega)
        rw [List.getD_eq_getElem?_getD] at this ⊢
        rw [List.getElem?_take, if_pos hj']; exact this)
      exact .agg _ _ h2.1 h2.2
  | false =>
    rw [hd] at h
    simp only [cond_false] at h
    have hl : 0 < xs.length := (List.getElem?_eq_some_iff.1 h).1
    have h0 := hc 0 hl
    have h1 := hr 0 hl
    rw [List.getD_eq_getElem?_getD, h] at h1
    simp only [Nat.add_zero] at h0
    exact ⟨x 0, by simp [h0], h1⟩
end

theorem Inv.cellI {w0 w : World} {I : IMap} {L : HL} (h : Inv w0 w I L) {b o : Nat} {x : Value} (hc : Ab.cellI I b o x) : w.cell? ⟨b, o, none⟩ = some x := by
  obtain ⟨c, e, fr, h1, h2⟩ := hc
  have := h.imm _ _ h1
  unfold World.cell?
  rw [this]; simp [h2]
/-- A row of one's own: its cells in memory. -/
theorem Inv.row {w0 w : World} {I : IMap} {L : HL} (h : Inv w0 w I L) {b : Nat} {e : TypeId} {cs : List AV} (hm : (b, AObj.row e cs) ∈ L) :
    ∃ c lo hi, w.heap[b]? = some (.cells c e (lo, hi)) ∧ RelL I cs c ∧ (lo = hi ∨ cs.length ≤ lo) ∧ (∀ j, j < cs.length → w.cell? ⟨b, j, none⟩ = some (c.getD j undef)) ∧ (∀ j, j < cs.length → (c.getD j undef).oneCell' = true) := by
  obtain ⟨_, o, ho, c, lo, hi, rfl, h2, h3, h4⟩ := h.own _ hm
  refine ⟨c, lo, hi, ho, h2, h3, fun j hj => ?_, h4⟩
  unfold World.cell?
  simp only at ho
  rw [ho]
  have : j < c.size := by rw [h2.1]; exact hj
  simp [Array.getD_eq_getD_getElem?, this]

section rules
variable {P : Program} {tt : Tab} {w0 : World} {ro : Option Nat} {n : Nat} {l : Env} {ds : List Deferred} {L : List Seg} {Q : Post}
variable {d : Tmp} {ty : TypeId} {gs : List GOp}

theorem SO.ldR (T : TabOk P tt) {t : TypeId} {x : Operand} {i : TI} {xs : List AV} {av : AV} (hx : ev l x = .ref xs) (hi : tlook tt t = some i) (h : loadA i xs = some av)
    (hk : SO P w0 ro n gs ((d, av) :: l) ds L Q) : SO P w0 ro n (⟨some d, .load t x, ty, none⟩ :: gs) l ds L Q := by
  refine SO.value rfl (by intro c; simp [GOp.o_mk]) (fun w I F ac hiv he => ?_) hk
  have h1 := he.ev x; rw [hx] at h1
  generalize e1 : ac.eval x = xv at h1
  cases h1 with
  | ref xs b o y hc hr =>
    obtain ⟨v, h2, h3⟩ := run_loadVar T hi (w := w) (I := I) y (fun j hj => hiv.cellI (hc j hj)) hr h
    exact ⟨v, w, I, by simp [GOp.o_mk, execOp, e1, Instr.loadAt, Instr.sureAddr, h2], IMap.le_refl I, h3, hiv⟩

/-- A load from a row of one's own. -/
theorem SO.ld (T : TabOk P tt) {t : TypeId} {x : Operand} {i : TI} {b o : Nat} {e : TypeId} {cs : List AV} {av : AV} (hx : ev l x = .v (.pointer (some ⟨b, o, none⟩))) (hi : tlook tt t = some i)
    (hs : Sg L [(b, .row e cs)]) (h : loadA i (cs.drop o) = some av)
    (hk : SO P w0 ro n gs ((d, av) :: l) ds L Q) : SO P w0 ro n (⟨some d, .load t x, ty, none⟩ :: gs) l ds L Q := by
  refine SO.value rfl (by intro c; simp [GOp.o_mk]) (fun w I F ac hiv he => ?_) hk
  have h1 := he.ev x; rw [hx] at h1
  generalize e1 : ac.eval x = xv at h1
  cases h1
  obtain ⟨c, lo, hi', hb, hc, hf, hcell, _⟩ := hiv.row (b := b) (e := e) (cs := cs) (by simp only [List.mem_append]; exact .inl (hs.mem (by simp)))
  obtain ⟨v, h2, h3⟩ := run_loadVar T hi (w := w) (I := I) (b := b) (o := o) (xs := cs.drop o) (fun j => c.getD (o + j) undef) (fun j hj => hcell (o + j) (by simp at hj; omega))
    (fun j hj => by
      have := hc.2 (o + j) (by simp at hj; omega)
      rw [List.getD_eq_getElem?_getD] at this ⊢
      rw [List.getElem?_drop]; exact this) h
  exact ⟨v, w, I, by simp [GOp.o_mk, execOp, e1, Instr.loadAt, Instr.sureAddr, h2], IMap.le_refl I, h3, hiv⟩

/-! ### New variables -/
theorem row_ok {I : IMap} {t : TypeId} {cs : List AV} {c : Array Value} (h : RelL I cs c) (hs : ∀ i, i < cs.length → (c.getD i undef).oneCell' = true) : (AObj.row t cs).ok I (.cells c t) := ⟨c, 0, 0, rfl, h, .inl rfl, hs⟩
theorem SO.alloc (T : TabOk P tt) {t : TypeId} {i : TI} (hi : tlook tt t = some i)
    (hk : ∀ b, SO P w0 ro n gs ((d, (.v (.pointer (some ⟨b, 0, none⟩)))) :: l) ds ([(b, .row t i.zero)] :: L) Q) : SO P w0 ro n (⟨some d, .alloc t, ty, none⟩ :: gs) l ds L Q := by
  refine SO.valueW rfl (by intro c; simp [GOp.o_mk]) fun w I F a hiv he => ?_
  obtain ⟨z, hz, hz1, hz2, hz3⟩ := run_zeroValue T hi w
  refine ⟨.pointer (some ⟨w.heap.size, 0, none⟩), w.alloc (.cells z.cells t), I, _, [(w.heap.size, .row t i.zero)] :: L, ?_, IMap.le_refl I, .v _, ?_, hk _⟩
  · simp only [GOp.o_mk, execOp, Instr.alloc, Sem.run_bind, hz, Result.andThen_ok, newVar, newRow, run_newObj, Sem.run_pure]; rfl
  · exact hiv.alloc (row_ok (hz1.rel I) (scA_all (hz1.rel I) hz3))
theorem SO.box {t : TypeId} {x : Operand} {cs : List AV} (hx : (ev l x).cells = some cs) (hsc : cs.all scA = true)
    (hk : ∀ b, SO P w0 ro n gs ((d, (.v (.pointer (some ⟨b, 0, none⟩)))) :: l) ds ([(b, .row t cs)] :: L) Q) : SO P w0 ro n (⟨some d, .box t x, ty, none⟩ :: gs) l ds L Q := by
  refine SO.valueW rfl (by intro c; simp [GOp.o_mk]) fun w I F a hiv he => ?_
  have h1 := cells_ok (he.ev x) hx
  refine ⟨.pointer (some ⟨w.heap.size, 0, none⟩), w.alloc (.cells (a.eval x).cells t), I, _, [(w.heap.size, .row t cs)] :: L, ?_, IMap.le_refl I, .v _, ?_, hk _⟩
  · simp only [GOp.o_mk, execOp, Instr.box, Sem.run_bind, Result.andThen_ok, newVar, newRow, run_newObj, Sem.run_pure]; rfl
  · exact hiv.alloc (row_ok h1 (scA_all h1 hsc))

/-! ### Stores -/
theorem run_storeCells (P : Program) (b o : Nat) : ∀ (vs : List Value) (k : Nat) (w : World) (c : Array Value) (e : TypeId) (lo hi : Nat), w.heap[b]? = some (.cells c e (lo, hi)) → (lo = hi ∨ c.size ≤ lo) →
    o + k + vs.length ≤ c.size → (∀ v, v ∈ vs → v.oneCell' = true) →
    ∃ w', (storeCells ⟨b, o, none⟩ vs k).run P w = .ok () w' ∧ w'.os = w.os ∧ w'.tape = w.tape ∧ w'.output = w.output ∧ w'.heap.size = w.heap.size ∧
      w'.heap[b]? = some (.cells ((vs.zipIdx k).foldl (fun cs (c, j) => cs.setIfInBounds (o + j) c) c) e (lo, hi)) ∧ ∀ m, m ≠ b → w'.heap[m]? = w.heap[m]? := by
  intro vs
  induction vs with
  | nil => intro k w c e lo hi hb hf hle hv; exact ⟨w, rfl, rfl, rfl, rfl, rfl, hb, fun _ _ => rfl⟩
  | cons v r ih =>
    intro k w c e lo hi hb hf hle hv
    simp only [List.length_cons] at hle
    have hcell : w.cell? ⟨b, o + k, none⟩ = some c[o + k] := by
      unfold World.cell?; rw [hb]; simp
    have hfr : w.frozen? ⟨b, o + k, none⟩ = false := by
      unfold World.frozen?; rw [hb]
      simp only [Bool.and_eq_false_imp, decide_eq_true_eq, decide_eq_false_iff_not]
      omega
    have hheap : (w.setCell ⟨b, o + k, none⟩ v).heap[b]? = some (.cells (c.setIfInBounds (o + k) v) e (lo, hi)) := by
      simp only [World.setCell, Array.getElem?_modify, hb]; simp
    obtain ⟨w', h1, h2, h3, h4, h5, h6, h7⟩ := ih (k + 1) (w.setCell ⟨b, o + k, none⟩ v) _ e lo hi hheap (by simpa using hf) (by simp; omega) (fun u hu => hv u (List.mem_cons_of_mem _ hu))
    refine ⟨w', ?_, h2, h3, h4, by rw [h5]; simp, ?_, fun m hm => ?_⟩
    · simp only [storeCells, Sem.run_bind, add_at, run_store P w _ v .plain (hv v (by simp)), hcell, hfr]
      exact h1
    · rw [h6]; rfl
    · rw [h7 m hm]; exact Below.heap_setCell _ _ _ _ hm

theorem splice_one {c vs : Array Value} {off : Nat} (hle : off + vs.toList.length ≤ c.size) (hc : ∀ j, j < c.size → (c.getD j undef).oneCell' = true) (hv : ∀ j, j < vs.toList.length → (vs.getD j undef).oneCell' = true) :
    ∀ j, j < c.size → (((vs.toList.zipIdx 0).foldl (fun cs (c, j) => cs.setIfInBounds (off + j) c) c).getD j undef).oneCell' = true := by
  intro j hj
  rw [Array.getD_eq_getD_getElem?, foldl_set_get vs.toList off 0 c (by omega) j]
  by_cases h : off + 0 ≤ j ∧ j < off + 0 + vs.toList.length
  · rw [if_pos h]
    have := hv (j - (off + 0)) (by omega)
    rw [Array.getD_eq_getD_getElem?] at this
    rwa [Array.getElem?_toList]
  · rw [if_neg h]
    have := hc j hj
    rwa [Array.getD_eq_getD_getElem?] at this
/-- A store into a row of one's own. -/
theorem SO.st (T : TabOk P tt) {t : TypeId} {x y : Operand} {i : TI} {b o : Nat} {e : TypeId} {cs cs' ys : List AV} {L' : List Seg} (hx : ev l x = .v (.pointer (some ⟨b, o, none⟩))) (hi : tlook tt t = some i)
    (hy : (ev l y).cells = some ys) (hsz : ys.length = i.size) (hsc : ys.all scA = true) (hst : St cs o ys cs') (hu : Up L [(b, .row e cs)] [(b, .row e cs')] L')
    (hk : SO P w0 ro n gs l ds L' Q) : SO P w0 ro n (⟨none, .store t x y, ty, none⟩ :: gs) l ds L Q := by
  refine SO.skipW rfl (by intro c; simp [GOp.o_mk]) fun w I F ac hiv he => ?_
  have h1 := he.ev x; rw [hx] at h1
  generalize e1 : ac.eval x = xv at h1
  cases h1
  have hyr := cells_ok (he.ev y) hy
  obtain ⟨G, p1, p2⟩ := hu.perm F
  have hiv' := hiv.perm p1
  obtain ⟨c, lo, hi', hb, hc, hf, _, hone⟩ := hiv'.row (b := b) (e := e) (cs := cs) (by simp)
  obtain ⟨hcs, hle⟩ := hst.eq
  have hlen : (ac.eval y).cells.toList.length = ys.length := by simpa using hyr.1
  obtain ⟨w', g1, g2, g3, g4, g5, g6, g7⟩ := run_storeCells P b o (ac.eval y).cells.toList 0 w c e lo hi' hb (by rw [hc.1]; exact hf) (by rw [hlen, hc.1]; omega) (fun v hv => by
    obtain ⟨j, hj, rfl⟩ := List.getElem_of_mem hv
    have hj' : j < ys.length := by omega
    have := hyr.2 j hj'
    rw [List.getD_eq_getElem?_getD, Array.getD_eq_getD_getElem?, List.getElem?_eq_getElem hj', Array.getElem?_eq_getElem (by rw [hyr.1]; exact hj')] at this
    have h2 := scA_ok this (List.all_eq_true.1 hsc _ (List.getElem_mem hj'))
    simpa using h2)
  refine ⟨w', I, L', ?_, IMap.le_refl I, ?_, hk⟩
  · have hz : (ac.eval y).cells.size = i.size := by rw [hyr.1, hsz]
    simp only [GOp.o_mk, execOp, Instr.storeAt, e1, Instr.sureAddr, storeVar, Sem.run_bind, Sem.run_pure, Result.andThen_ok, run_sizeOf T hi, hz, ne_eq, not_true_eq_false, if_false, g1]
  · refine Inv.perm ?_ p2.symm
    have hsp := relL_splice (off := o) hc hyr hle
    have e2 : ((ac.eval y).cells.zipIdx.foldl (fun cs (c, j) => cs.setIfInBounds (o + j) c) c) = (((ac.eval y).cells.toList.zipIdx 0).foldl (fun cs (c, j) => cs.setIfInBounds (o + j) c) c) := by
      rw [← Array.foldl_toList]; congr 1; simp
    rw [e2, ← hcs] at hsp
    have hlc : cs'.length = cs.length := by rw [hcs]; simp [spliceA]; omega
    exact Inv.set hiv' (ao' := .row e cs') ⟨_, lo, hi', rfl, hsp, by rw [hlc]; exact hf, fun i hi => splice_one (by rw [hc.1, hlen]; omega) (fun j hj => hone j (by rw [← hc.1]; exact hj)) (fun j hj => scA_all hyr hsc j (by rw [hlen] at hj; exact hj)) i (by rw [hc.1, ← hlc]; exact hi)⟩ g2 g3 g4 g5 g6 g7
end rules
end Ab
