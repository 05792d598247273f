/- Maps of one's own whose keys are whole numbers. They ask that a table of types is the program's. -/
import Derived.Test.YtipdohldogbmnaaDoorAb23
set_option autoImplicit false
set_option linter.unusedVariables false
set_option linter.unusedSimpArgs false
namespace Ab
open Go Go.RowKit
/-- A map's entries, keys as numbers. -/
def mapI (k : IntKind) (es : List (Int × AV)) : List (AV × AV) := es.map fun p => (.v (.int k p.1), p.2)
def findI (x : Int) : List (Int × AV) → Option AV
  | [] => none
  | (k, v) :: r => if x = k then some v else findI x r
def updI (x : Int) (y : AV) : List (Int × AV) → List (Int × AV)
  | [] => [(x, y)]
  | (k, v) :: r => if x = k then (k, y) :: r else (k, v) :: updI x y r
def idxI (x : Int) : List (Int × AV) → Nat → Option Nat
  | [], _ => none
  | (k, _) :: r, i => if x = k then some i else idxI x r (i + 1)
theorem idxI_ge {x : Int} : ∀ (es : List (Int × AV)) (i q : Nat), idxI x es i = some q → i ≤ q := by
  intro es
  induction es with
  | nil => intro i q h; cases h
  | cons p r ih =>
    intro i q h
    obtain ⟨k, v⟩ := p
    simp only [idxI] at h
    split at h
    · cases h; exact Nat.le_refl _
    · have := ih _ _ h; omega
theorem idxI_lt {x : Int} : ∀ (es : List (Int × AV)) (i q : Nat), idxI x es i = some q → q < i + es.length := by
  intro es
  induction es with
  | nil => intro i q h; cases h
  | cons p r ih =>
    intro i q h
    obtain ⟨k, v⟩ := p
    simp only [idxI] at h
    split at h
    · cases h; simp
    · have := ih _ _ h; simp; omega
theorem idxI_find {x : Int} : ∀ (es : List (Int × AV)) (i : Nat), findI x es = (idxI x es i).map fun q => (es.getD (q - i) (0, .any)).2 := by
  intro es
  induction es with
  | nil => intro i; rfl
  | cons p r ih =>
    intro i
    obtain ⟨k, v⟩ := p
    simp only [findI, idxI]
    by_cases hx : x = k
    · simp [hx]
    · simp only [hx, if_false]
      rw [ih (i + 1)]
      cases hq : idxI x r (i + 1) with
      | none => rfl
      | some q =>
        have := idxI_ge _ _ _ hq
        have e : q - i = (q - (i + 1)) + 1 := by omega
        simp [e]
theorem findNow_int {I : IMap} {kd : IntKind} {x : Int} : ∀ (es : List (Int × AV)) (arr : List MapEntry) (i : Nat), arr.length = es.length → (∀ j (h : j < arr.length), Rel I (.v (.int kd (es.getD j (0, .any)).1)) arr[j].key) →
    Instr.findNow (.int kd) (.int kd x) arr i = some ((idxI x es i).map fun q => (q, (arr.getD (q - i) default).val)) := by
  intro es
  induction es with
  | nil => intro arr i h1 h2; cases arr with | nil => rfl | cons a r => simp at h1
  | cons p es ih =>
    intro arr i h1 h2
    obtain ⟨k, v⟩ := p
    cases arr with
    | nil => simp at h1
    | cons a r =>
      have h0 := h2 0 (by simp)
      simp only [List.getD_cons_zero, List.getElem_cons_zero] at h0
      generalize hk : a.key = kv at h0
      cases h0
      simp only [Instr.findNow, hk, Instr.sameNow, if_true, idxI]
      by_cases hx : x = k
      · subst hx; simp
      · have hb : (x == k) = false := by simp [hx]
        rw [hb]
        simp only [hx, if_false]
        rw [ih r (i + 1) (by simpa using h1) (fun j hj => by have := h2 (j + 1) (by simp; omega); simpa using this)]
        cases hq : idxI x es (i + 1) with
        | none => rfl
        | some q =>
          have := idxI_ge _ _ _ hq
          have e : q - i = (q - (i + 1)) + 1 := by omega
          simp [e]
section rules
variable {P : Program} {tt : Tab} {w0 : World} {ro : Option Nat} {n : Nat} {M : List Seg} {l : Env} {ds : List Deferred} {L L1 : List Seg} {Q : Post} {gs : List GOp}
variable {ty : TypeId}
/-- A map of one's own, its entries in memory. -/
theorem Inv.mapI {w : World} {I : IMap} {b : Nat} {kd : IntKind} {es : List (Int × AV)} {F : HL} (h : Inv w0 w I F) (hm : (b, AObj.map (Ab.mapI kd es)) ∈ F) :
    ∃ arr clock, w.heap[b]? = some (.map arr clock) ∧ arr.size = es.length ∧ (∀ j (hj : j < arr.size), Rel I (.v (.int kd (es.getD j (0, .any)).1)) arr[j].key ∧ Rel I (es.getD j (0, .any)).2 arr[j].val ∧ arr[j].born < clock) ∧
      (∀ i j (hi : i < arr.size) (hj : j < arr.size), arr[i].born = arr[j].born → i = j) := by
  obtain ⟨_, o, ho, arr, clock, rfl, h2, h3, h4⟩ := h.own _ hm
  refine ⟨arr, clock, ho, by simpa [Ab.mapI] using h2, fun j hj => ?_, h4⟩
  have := h3 j hj
  have h5 : arr.size = es.length := by simpa [Ab.mapI] using h2
  have hj' : j < es.length := by omega
  simpa [Ab.mapI, List.getD_eq_getElem?_getD, hj'] using this
theorem Rdp.lkp (T : TabOk P tt) {d : Option Tmp} {t kt et : TypeId} {x y : Operand} {i j : TI} {b : Nat} {kd : IntKind} {key : Int} {es : List (Int × AV)} {z : Value} (hx : ev l x = .v (.map (some b))) (hy : ev l y = .v (.int kd key)) (hi : tlook tt t = some i) (hd : i.desc = .map kt et)
    (hj : tlook tt kt = some j) (hjd : j.desc = .int kd) (hz : ∀ w, (zeroValue et).run P w = .ok z w) (hs : Sg M [(b, .map (mapI kd es))]) : Rdp P w0 n M l ⟨d, .lookup t x y false, ty, none⟩ ((findI key es).getD (.v z)) := by
  refine ⟨fun w I F ac hiv he => ?_⟩
  have g1 := he.ev x; rw [hx] at g1
  generalize e1 : ac.eval x = xv at g1
  have g2 := he.ev y; rw [hy] at g2
  generalize e2 : ac.eval y = yv at g2
  cases g1; cases g2
  obtain ⟨arr, clock, hb, hsz, hrel, _⟩ := hiv.mapI (b := b) (kd := kd) (es := es) (by simp only [List.mem_append]; exact .inl (hs.mem (by simp)))
  have hu := run_underlying T hi w
  rw [hd] at hu
  have hu2 := run_underlying T hj w
  rw [hjd] at hu2
  have hgo : (getObj b).run P w = .ok (.map arr clock) w := by simp [getObj, Sem.run, hb]
  have hck : ∀ e, (Instr.checkKey e 10000 kt (.int kd key)).run P w = .ok () w := fun e => by
    unfold Instr.checkKey
    simp only [Sem.run_bind, hu2, Result.andThen_ok]; rfl
  have hfn := findNow_int (I := I) (kd := kd) (x := key) es arr.toList 0 (by simpa using hsz) (fun q hq => by have := (hrel q (by simpa using hq)).1; simpa using this)
  have hfk : (Instr.findKey kt (.int kd key) arr.toList).run P w = .ok ((idxI key es 0).map fun q => (q, (arr.toList.getD (q - 0) default).val)) w := by
    simp only [Instr.findKey, Sem.run_bind, hu2, Result.andThen_ok, hfn, Sem.run_pure]
  have hfi := idxI_find (x := key) es 0
  cases hq : idxI key es 0 with
  | none =>
    rw [hq] at hfk hfi
    rw [hfi]
    refine ⟨z, ?_, .v _⟩
    simp only [GOp.o_mk, execOp, e1, e2, Instr.lookup, Sem.run_bind, hu, Result.andThen_ok, hgo, Sem.run_pure, hck, hfk, Option.map_none, hz]
    rfl
  | some q =>
    rw [hq] at hfk hfi
    rw [hfi]
    have hlt : q < arr.size := by
      have := idxI_lt _ _ _ hq
      omega
    refine ⟨arr[q].val, ?_, by have := (hrel q hlt).2.1; simpa using this⟩
    simp only [GOp.o_mk, execOp, e1, e2, Instr.lookup, Sem.run_bind, hu, Result.andThen_ok, hgo, Sem.run_pure, hck, hfk, Option.map_some]
    simp [List.getD_eq_getElem?_getD, hlt]
/-- A new map. -/
theorem SO.mkMap {d : Tmp} {t : TypeId} (kd : IntKind) (hk : ∀ b, SO P w0 ro n gs ((d, .v (.map (some b))) :: l) ds ([(b, .map (mapI kd []))] :: L) Q) : SO P w0 ro n (⟨some d, .makeMap t none, ty, none⟩ :: gs) l ds L Q := by
  refine SO.valueW rfl (by intro c; simp [GOp.o_mk]) fun w I F ac hiv he => ?_
  refine ⟨.map (some w.heap.size), w.alloc (.map #[] 0), I, _, [(w.heap.size, .map (mapI kd []))] :: L, ?_, IMap.le_refl I, .v _, ?_, hk _⟩
  · simp only [GOp.o_mk, execOp, Option.map_none, Instr.makeMap, Sem.run_bind, Sem.run_pure, Result.andThen_ok, run_newObj]; rfl
  · exact hiv.alloc (ao := .map (mapI kd [])) ⟨#[], 0, rfl, rfl, fun i hi => by simp at hi, fun i j hi => by simp at hi⟩
theorem updI_none {x : Int} {y : AV} : ∀ (es : List (Int × AV)) (i : Nat), idxI x es i = none → updI x y es = es ++ [(x, y)] := by
  intro es
  induction es with
  | nil => intro i h; rfl
  | cons p r ih =>
    intro i h
    obtain ⟨k, v⟩ := p
    simp only [idxI] at h
    split at h
    · cases h
    · rename_i hx; simp only [updI, if_neg hx, ih _ h, List.cons_append]
/-- A new entry of a map. -/
theorem SO.mapN (T : TabOk P tt) {op : Op} {t kt et : TypeId} {x y z : Operand} {i j : TI} {b : Nat} {kd : IntKind} {key : Int} {es : List (Int × AV)} {L' : List Seg} (hop : op = .mapUpdate t x y z ∨ op = .insert t x y z)
    (hx : ev l x = .v (.map (some b))) (hy : ev l y = .v (.int kd key)) (hi : tlook tt t = some i) (hd : i.desc = .map kt et)
    (hj : tlook tt kt = some j) (hjd : j.desc = .int kd) (hnone : idxI key es 0 = none) (hu : Up L [(b, .map (mapI kd es))] [(b, .map (mapI kd (es ++ [(key, ev l z)])))] L')
    (hk : SO P w0 ro n gs l ds L' Q) : SO P w0 ro n (⟨none, op, ty, none⟩ :: gs) l ds L Q := by
  refine SO.skipW rfl (by intro c; rcases hop with h | h <;> subst h <;> simp [GOp.o_mk]) fun w I F ac hiv he => ?_
  have g1 := he.ev x; rw [hx] at g1
  generalize e1 : ac.eval x = xv at g1
  have g2 := he.ev y; rw [hy] at g2
  generalize e2 : ac.eval y = yv at g2
  have g3 := he.ev z
  cases g1; cases g2
  obtain ⟨G, p1, p2⟩ := hu.perm F
  have hiv' := hiv.perm p1
  obtain ⟨arr, clock, hb, hsz, hrel, hinj⟩ := hiv'.mapI (b := b) (kd := kd) (es := es) (by simp)
  have hu1 := run_underlying T hi w
  rw [hd] at hu1
  have hu2 := run_underlying T hj w
  rw [hjd] at hu2
  have hgo : (getObj b).run P w = .ok (.map arr clock) w := by simp [getObj, Sem.run, hb]
  have hck : ∀ e, (Instr.checkKey e 10000 kt (.int kd key)).run P w = .ok () w := fun e => by
    unfold Instr.checkKey
    simp only [Sem.run_bind, hu2, Result.andThen_ok]; rfl
  have hfn := findNow_int (I := I) (kd := kd) (x := key) es arr.toList 0 (by simpa using hsz) (fun q hq => by have := (hrel q (by simpa using hq)).1; simpa using this)
  have hfk : (Instr.findKey kt (.int kd key) arr.toList).run P w = .ok none w := by
    simp only [Instr.findKey, Sem.run_bind, hu2, Result.andThen_ok, hfn, Sem.run_pure, hnone, Option.map_none]
  have hset : (setObj b (.map (arr.push { key := .int kd key, val := ac.eval z, born := clock }) (clock + 1))).run P w = .ok () (w.putObj b (.map (arr.push { key := .int kd key, val := ac.eval z, born := clock }) (clock + 1))) := by
    simp [setObj, Sem.run, hb, World.putObj]
  have hupd : (Instr.mapUpdate t (.map (some b)) (.int kd key) (ac.eval z)).run P w = .ok () (w.putObj b (.map (arr.push { key := .int kd key, val := ac.eval z, born := clock }) (clock + 1))) := by
    simp only [Instr.mapUpdate, Sem.run_bind, hu1, Result.andThen_ok, hgo, hck, hfk, hset]
  have hlt : b < w.heap.size := (Array.getElem?_eq_some_iff.1 hb).1
  refine ⟨w.putObj b (.map (arr.push { key := .int kd key, val := ac.eval z, born := clock }) (clock + 1)), I, L', ?_, IMap.le_refl I, ?_, hk⟩
  · rcases hop with h | h <;> subst h <;> simp only [GOp.o_mk, execOp, e1, e2, Sem.run_bind, hupd, Result.andThen_ok, Sem.run_pure]
  · refine Inv.perm ?_ p2.symm
    have hok : (AObj.map (mapI kd (es ++ [(key, ev l z)]))).ok I (.map (arr.push { key := .int kd key, val := ac.eval z, born := clock }) (clock + 1)) := by
      refine ⟨_, _, rfl, by simp [mapI, hsz], fun q hq => ?_, fun p q hp hq hpq => ?_⟩
      · by_cases hlt : q < arr.size
        · have h1 := hrel q hlt
          have hq' : q < es.length := by omega
          rw [Array.getElem_push_lt hlt]
          refine ⟨?_, ?_, by have := h1.2.2; omega⟩
          · simpa [mapI, List.getD_eq_getElem?_getD, List.getElem?_append, hq'] using h1.1
          · simpa [mapI, List.getD_eq_getElem?_getD, List.getElem?_append, hq'] using h1.2.1
        · have hq2 : q = arr.size := by simp at hq; omega
          subst hq2
          rw [Array.getElem_push_eq]
          refine ⟨?_, ?_, by simp⟩
          · simp [mapI, List.getD_eq_getElem?_getD, List.getElem?_append, hsz]; exact .v _
          · simpa [mapI, List.getD_eq_getElem?_getD, List.getElem?_append, hsz] using g3
      · simp only [Array.getElem_push] at hpq
        simp at hp hq
        split at hpq <;> split at hpq
        · rename_i h1 h2; exact hinj p q h1 h2 hpq
        · rename_i h1 h2; have := (hrel p h1).2.2; simp at hpq; omega
        · rename_i h1 h2; have := (hrel q h2).2.2; simp at hpq; omega
        · omega
    exact Inv.set hiv' (ao' := .map (mapI kd (es ++ [(key, ev l z)]))) (o := .map (arr.push { key := .int kd key, val := ac.eval z, born := clock }) (clock + 1)) hok rfl rfl rfl (by simp) (World.putObj_heap_same hlt) (fun m hm => World.putObj_heap_other hm)
end rules
end Ab
