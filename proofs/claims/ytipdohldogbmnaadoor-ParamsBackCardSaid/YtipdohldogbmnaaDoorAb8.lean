/- The rules for slices: literals, parts, append, conversions to and from strings; what is made becomes unchangeable. They ask that a table of types is the program's. -/
import Derived.Test.YtipdohldogbmnaaDoorAb7
set_option autoImplicit false
set_option linter.unusedVariables false
set_option linter.unusedSimpArgs false
namespace Ab
open Go Go.RowKit

/-! ### Literals -/
/-- The elements of a literal told one by one, in order. -/
def elsP (l : Env) (size : Nat) : Nat → List (Nat × Operand) → Option (List (List AV))
  | _, [] => some []
  | k, (i, x) :: r =>
    bif Nat.beq i k then
      (match (ev l x).cells with
      | some ys => bif Nat.beq ys.length size && ys.all scA then (match elsP l size (k + 1) r with | some es => some (ys :: es) | none => none) else none
      | none => none)
    else none

theorem fill_seq {I : IMap} {n : Nat} {a : Act} {l : Env} (he : EnvOk I n a.tmps l) (size : Nat) : ∀ (ps : List (Nat × Operand)) (k : Nat) (es : List (List AV)) (cs : Array Value) (m : Nat), elsP l size k ps = some es → cs.size = m * size → k + ps.length = m →
    ∃ o : Array Value, Instr.fill (fun i => some (i * size, size)) cs (ps.map fun p => (p.1, a.eval p.2)) = some o ∧ o.size = m * size ∧ es.length = ps.length ∧
      (∀ i j, i < es.length → j < size → (es.getD i []).length = size ∧ Rel I ((es.getD i []).getD j .any) (o.getD ((k + i) * size + j) undef) ∧ (o.getD ((k + i) * size + j) undef).oneCell' = true) ∧
      (∀ q, q < k * size → o.getD q undef = cs.getD q undef) ∧ (∀ e, e ∈ es → e.length = size) := by
  intro ps
  induction ps with
  | nil =>
    intro k es cs m h hs hm
    cases h
    exact ⟨cs, rfl, hs, rfl, fun i j hi => by simp at hi, fun _ _ => rfl, fun e he => by simp at he⟩
  | cons p ps ih =>
    intro k es cs m h hs hm
    obtain ⟨i, x⟩ := p
    simp only [elsP] at h
    cases hik : Nat.beq i k with
    | false => rw [hik] at h; cases h
    | true =>
      have := Nat.eq_of_beq_eq_true hik
      subst this
      rw [hik] at h
      simp only [cond_true] at h
      split at h
      · rename_i ys hys
        cases hb : (Nat.beq ys.length size && ys.all scA) with
        | false => rw [hb] at h; cases h
        | true =>
          rw [hb] at h
          simp only [cond_true] at h
          split at h
          · rename_i es' hes
            cases h
            rw [Bool.and_eq_true] at hb
            have hl := Nat.eq_of_beq_eq_true hb.1
            have hcy := cells_ok (he.ev x) hys
            have hcs : (a.eval x).cells.size = size := by rw [hcy.1]; exact hl
            simp only [List.length_cons] at hm
            have hmul : (i + 1) * size ≤ m * size := Nat.mul_le_mul_right _ (by omega)
            have hmul' : (i + 1) * size = i * size + size := by rw [Nat.add_mul, Nat.one_mul]
            obtain ⟨o, h1, h2, h3, h4, h5, h6⟩ := ih (i + 1) es' (((a.eval x).cells.toList.zipIdx 0).foldl (fun cs (c, j) => cs.setIfInBounds (i * size + j) c) cs) m hes (by rw [foldl_set_size]; exact hs) (by omega)
            refine ⟨o, ?_, h2, by simp [h3], ?_, ?_, ?_⟩
            · simp only [List.map_cons, Instr.fill, hcs]
              rw [if_neg (by simp; omega)]
              have e2 : ((a.eval x).cells.zipIdx.foldl (fun cs (c, j) => cs.setIfInBounds (i * size + j) c) cs) = (((a.eval x).cells.toList.zipIdx 0).foldl (fun cs (c, j) => cs.setIfInBounds (i * size + j) c) cs) := by
                rw [← Array.foldl_toList]; congr 1; simp
              rw [e2]; exact h1
            · intro q j hq hj
              cases q with
              | zero =>
                simp only [List.getD_cons_zero, Nat.add_zero]
                have hlt : i * size + j < (i + 1) * size := by omega
                rw [h5 _ hlt, Array.getD_eq_getD_getElem?, foldl_set_get (a.eval x).cells.toList (i * size) 0 cs (by rw [hs]; simp [hcs]; omega)]
                rw [if_pos (by simp [hcs]; omega)]
                have e3 : i * size + j - (i * size + 0) = j := by omega
                rw [e3, Array.getElem?_toList]
                have hr := hcy.2 j (by omega)
                rw [Array.getD_eq_getD_getElem?] at hr
                have hsc := scA_all hcy hb.2 j (by omega)
                rw [Array.getD_eq_getD_getElem?] at hsc
                exact ⟨hl, hr, hsc⟩
              | succ q =>
                have := h4 q j (by simpa using hq) hj
                rw [show i + 1 + q = i + (q + 1) by omega] at this
                simpa using this
            · intro q hq
              rw [h5 q (by omega), Array.getD_eq_getD_getElem?, foldl_set_get (a.eval x).cells.toList (i * size) 0 cs (by rw [hs]; simp [hcs]; omega)]
              rw [if_neg (by omega), Array.getD_eq_getD_getElem?]
            · intro e he'
              rcases List.mem_cons.1 he' with rfl | h'
              · exact hl
              · exact h6 e h'
          · cases h
      · cases h

theorem flatten_getD (es : List (List AV)) (size : Nat) (h : ∀ e, e ∈ es → e.length = size) (k : Nat) (hpos : 0 < size) : es.flatten.getD k .any = (es.getD (k / size) []).getD (k % size) .any := by
  induction es generalizing k with
  | nil => simp
  | cons e es ih =>
    have he := h e (by simp)
    have ih' := fun k => ih (fun e he => h e (List.mem_cons_of_mem _ he)) k
    rw [List.flatten_cons, List.getD_eq_getElem?_getD, List.getElem?_append, he]
    by_cases hk : k < size
    · rw [if_pos hk, Nat.div_eq_of_lt hk, Nat.mod_eq_of_lt hk]
      simp [List.getD_eq_getElem?_getD]
    · rw [if_neg hk]
      have h1 := ih' (k - size)
      rw [List.getD_eq_getElem?_getD] at h1
      rw [h1]
      have h2 : k / size = (k - size) / size + 1 := by rw [← Nat.sub_add_cancel (by omega : size ≤ k), Nat.add_div_right _ hpos]; simp
      have h3 : k % size = (k - size) % size := by rw [Nat.mod_eq_sub_mod (by omega)]
      rw [h2, h3]; simp
section rules
variable {P : Program} {tt : Tab} {w0 : World} {ro : Option Nat} {n : Nat} {l : Env} {ds : List Deferred} {L : List Seg} {Q : Post}
variable {d : Tmp} {ty : TypeId} {gs : List GOp}

theorem run_buildSlice (T : TabOk P tt) {I : IMap} {a : Act} (he : EnvOk I n a.tmps l) {t e : TypeId} {i j : TI} {m : Nat} {ps : Array (Nat × Operand)} {es : List (List AV)} (hi : tlook tt t = some i) (hd : i.desc = .slice e) (hj : tlook tt e = some j)
    (hes : elsP l j.size 0 ps.toList = some es) (hm : ps.size = m) (hle : m * j.size ≤ 16777216) (w : World) :
    ∃ o : Array Value, (Instr.buildSlice t m (ps.map fun (i, x) => (i, a.eval x))).run P w = .ok (.slice (some ⟨w.heap.size, 0, none⟩) m m) (w.alloc (.cells o e)) ∧ o.size = m * j.size ∧ es.length = m ∧
      (∀ i q, i < es.length → q < j.size → (es.getD i []).length = j.size ∧ Rel I ((es.getD i []).getD q .any) (o.getD (i * j.size + q) undef) ∧ (o.getD (i * j.size + q) undef).oneCell' = true) ∧ (∀ e, e ∈ es → e.length = j.size) := by
  have hu := run_underlying T hi w
  rw [hd] at hu
  obtain ⟨z, hz, hz1, hz2, hz3⟩ := run_zeroValue T hj w
  have key : ∀ zero : Array Value, ∃ o : Array Value, Instr.fill (fun i => some (i * j.size, j.size)) ((Array.range (m * j.size)).map (zero[· % zero.size]!)) (ps.map fun (i, x) => (i, a.eval x)).toList = some o ∧ o.size = m * j.size ∧ es.length = m ∧
      (∀ i q, i < es.length → q < j.size → (es.getD i []).length = j.size ∧ Rel I ((es.getD i []).getD q .any) (o.getD (i * j.size + q) undef) ∧ (o.getD (i * j.size + q) undef).oneCell' = true) ∧ (∀ e, e ∈ es → e.length = j.size) := by
    intro zero
    obtain ⟨o, h1, h2, h3, h4, h5, h6⟩ := fill_seq he j.size ps.toList 0 es ((Array.range (m * j.size)).map (zero[· % zero.size]!)) m hes (by simp) (by simpa using hm)
    refine ⟨o, ?_, h2, by rw [h3]; simpa using hm, fun i q hi hq => ?_, h6⟩
    · rw [← h1]; simp
    · simpa using h4 i q hi hq
  have hnot : ¬ (m * j.size > 2 ^ 24) := by omega
  by_cases h0 : m * j.size = 0
  · obtain ⟨o, h1, h2⟩ := key #[]
    refine ⟨o, ?_, h2⟩
    have hnot0 : ¬ (0 > 2 ^ 24) := by omega
    rw [h0] at h1
    simp only [Instr.buildSlice, Sem.run_bind, hu, Result.andThen_ok, run_sizeOf T hj, h0, hnot0, if_false, if_true, Sem.run_pure, h1, newRow, Sem.run_bind, run_newObj, Result.andThen_ok, Sem.run_pure]
    rfl
  · obtain ⟨o, h1, h2⟩ := key z.cells
    refine ⟨o, ?_, h2⟩
    simp only [Instr.buildSlice, Sem.run_bind, hu, Result.andThen_ok, run_sizeOf T hj, hnot, if_false, h0, Sem.run_pure, hz, h1, newRow, run_newObj]
    rfl

/-- A literal that nobody changes. -/
theorem SO.bsF (T : TabOk P tt) {t e : TypeId} {i j : TI} {m : Nat} {ps : Array (Nat × Operand)} {es : List (List AV)} (hi : tlook tt t = some i) (hd : i.desc = .slice e) (hj : tlook tt e = some j)
    (hes : elsP l j.size 0 ps.toList = some es) (hm : ps.size = m) (hle : m * j.size ≤ 16777216)
    (hk : SO P w0 ro n gs ((d, .sl j.size m es) :: l) ds L Q) : SO P w0 ro n (⟨some d, .buildSlice t m ps, ty, none⟩ :: gs) l ds L Q := by
  refine SO.valueW rfl (by intro c; simp [GOp.o_mk]) fun w I F a hiv he => ?_
  obtain ⟨o, h1, h2, h3, h4, h5⟩ := run_buildSlice T he hi hd hj hes hm hle w
  have hinv := hiv.alloc (o := .cells o e) (ao := .raw (.cells o e)) rfl
  obtain ⟨J, hJ, hJb, hinv2⟩ := hinv.freeze (heap_push_new w _)
  refine ⟨.slice (some ⟨w.heap.size, 0, none⟩) m m, w.alloc (.cells o e), J, _, L, by simp only [GOp.o_mk, execOp, Sem.run_bind, h1, Result.andThen_ok, Sem.run_pure], hJ, ?_, hinv2, hk⟩
  refine .sl _ _ _ _ _ _ (fun q r => o.getD (q * j.size + r) undef) h3 (fun q hq => ?_) (fun q r hq hr => ?_) (fun q r hq hr => (h4 q r (by omega) hr).2.1.mono hJ) (fun q r hq hr => (h4 q r (by omega) hr).2.2) (Nat.le_refl _)
  · have hlt : q < es.length := by omega
    rw [List.getD_eq_getElem?_getD, List.getElem?_eq_getElem hlt]
    exact h5 _ (List.getElem_mem hlt)
  · refine ⟨o, e, (0, 0), hJb, ?_⟩
    have hlt : q * j.size + r < o.size := by
      rw [h2]
      calc q * j.size + r < q * j.size + j.size := by omega
        _ = (q + 1) * j.size := by rw [Nat.add_mul, Nat.one_mul]
        _ ≤ m * j.size := Nat.mul_le_mul_right _ (by omega)
    rw [Nat.zero_add, Array.getD_eq_getD_getElem?, Array.getElem?_eq_getElem hlt]; rfl

/-! ### Slices of one's own that grow -/
/-- A slice that owns its row: it holds the cells xs (n elements); nil, or all of a block from its head on. -/
inductive Buf (e size : Nat) (xs : List AV) : Option Addr → Nat → Nat → Seg → Prop
  | nil (h : xs = []) : Buf e size xs none 0 0 []
  | own (b n c : Nat) (junk : List AV) (h1 : xs.length = n * size) (h2 : junk.length = (c - n) * size) (h3 : n ≤ c) : Buf e size xs (some ⟨b, 0, none⟩) n c [(b, .row e (xs ++ junk))]

/-- A literal of one's own. -/
theorem SO.bsO (T : TabOk P tt) {t e : TypeId} {i j : TI} {m : Nat} {ps : Array (Nat × Operand)} {es : List (List AV)} (hi : tlook tt t = some i) (hd : i.desc = .slice e) (hj : tlook tt e = some j)
    (hes : elsP l j.size 0 ps.toList = some es) (hm : ps.size = m) (hle : m * j.size ≤ 16777216)
    (hk : ∀ a c s, Buf e j.size es.flatten a m c s → SO P w0 ro n gs ((d, .v (.slice a m c)) :: l) ds (s :: L) Q) : SO P w0 ro n (⟨some d, .buildSlice t m ps, ty, none⟩ :: gs) l ds L Q := by
  refine SO.valueW rfl (by intro c; simp [GOp.o_mk]) fun w I F a hiv he => ?_
  obtain ⟨o, h1, h2, h3, h4, h5⟩ := run_buildSlice T he hi hd hj hes hm hle w
  have hfl : es.flatten.length = m * j.size := by
    rw [List.length_flatten]
    have : es.map List.length = List.replicate es.length j.size := List.eq_replicate_iff.2 ⟨by simp, fun x hx => by
      obtain ⟨y, hy, rfl⟩ := List.mem_map.1 hx
      exact h5 y hy⟩
    rw [this, h3]; simp
  have hidx : ∀ k, k < es.flatten.length → Rel I (es.flatten.getD k .any) (o.getD k undef) ∧ (o.getD k undef).oneCell' = true := by
    intro k hk
    have hpos : 0 < j.size := by
      rcases Nat.eq_zero_or_pos j.size with h | h
      · rw [hfl, h] at hk; omega
      · exact h
    have hq : k / j.size < es.length := by rw [h3]; rw [hfl] at hk; exact Nat.div_lt_of_lt_mul (by rw [Nat.mul_comm]; exact hk)
    have := h4 (k / j.size) (k % j.size) hq (Nat.mod_lt _ hpos)
    rw [Nat.mul_comm, Nat.div_add_mod] at this
    refine ⟨?_, this.2.2⟩
    rw [flatten_getD es j.size h5 k hpos]; exact this.2.1
  have hrow : (AObj.row e es.flatten).ok I (.cells o e) := ⟨o, 0, 0, rfl, ⟨by rw [h2, hfl], fun k hk => (hidx k hk).1⟩, .inl rfl, fun k hk => (hidx k hk).2⟩
  have hinv := hiv.alloc hrow
  refine ⟨.slice (some ⟨w.heap.size, 0, none⟩) m m, w.alloc (.cells o e), I, .v (.slice (some ⟨w.heap.size, 0, none⟩) m m), [(w.heap.size, .row e es.flatten)] :: L, by simp only [GOp.o_mk, execOp, Sem.run_bind, h1, Result.andThen_ok, Sem.run_pure], IMap.le_refl I, .v _, hinv, ?_⟩
  have := hk (some ⟨w.heap.size, 0, none⟩) m [(w.heap.size, .row e (es.flatten ++ []))] (.own w.heap.size m m [] hfl (by simp) (Nat.le_refl _))
  rw [List.append_nil] at this
  exact this

theorem zeroCells_ok {I : IMap} {zs : List AV} {z : Value} (h : RelZ zs z) (hs : zs.all scA = true) (k : Nat) : RelL I (List.replicate (k * zs.length) .any) (Builtin.zeroCells z.cells k) ∧ ∀ i, i < k * zs.length → ((Builtin.zeroCells z.cells k).getD i undef).oneCell' = true := by
  have hl : z.cells.size = zs.length := by rw [← h]; simp
  have hsz : (Builtin.zeroCells z.cells k).size = k * zs.length := by simp [Builtin.zeroCells, hl]
  have hget : ∀ i, i < k * zs.length → ∃ v, (Builtin.zeroCells z.cells k).getD i undef = v ∧ v.oneCell' = true := by
    intro i hi
    have hpos : 0 < zs.length := by
      rcases Nat.eq_zero_or_pos zs.length with h0 | h0
      · rw [h0] at hi; omega
      · exact h0
    have hm : i % z.cells.size < z.cells.size := Nat.mod_lt _ (by omega)
    refine ⟨z.cells[i % z.cells.size], ?_, ?_⟩
    · rw [Array.getD_eq_getD_getElem?]
      have : (Builtin.zeroCells z.cells k)[i]? = some z.cells[i % z.cells.size] := by
        simp only [Builtin.zeroCells]
        rw [Array.getElem?_map, Array.getElem?_range, if_pos (by rw [hl]; exact hi)]
        simp only [Option.map_some]
        rw [getElem!_pos z.cells _ hm]
      rw [this]; rfl
    · have := scA_all (h.rel I) hs (i % z.cells.size) (by omega)
      rw [Array.getD_eq_getD_getElem?, Array.getElem?_eq_getElem hm] at this
      exact this
  refine ⟨⟨by simp [hsz], fun j hj => ?_⟩, fun i hi => ?_⟩
  · have : (List.replicate (k * zs.length) AV.any).getD j .any = .any := by
      rw [List.getD_eq_getElem?_getD]; simp at hj; simp [hj]
    rw [this]; exact .any _
  · obtain ⟨v, h1, h2⟩ := hget i hi
    rw [h1]; exact h2
end rules
end Ab
