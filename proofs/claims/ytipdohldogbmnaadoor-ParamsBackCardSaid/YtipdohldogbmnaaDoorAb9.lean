/- The rules for append, for what becomes unchangeable, for parts of slices, for strings. They ask that a table of types is the program's. -/
import Derived.Test.YtipdohldogbmnaaDoorAb8
set_option autoImplicit false
set_option linter.unusedVariables false
set_option linter.unusedSimpArgs false
namespace Ab
open Go Go.RowKit

theorem relL_append' {I : IMap} {xs ys : List AV} {us vs : Array Value} (h : RelL I xs us) (k : RelL I ys vs) : RelL I (xs ++ ys) (us ++ vs) := relL_append h k
def oneAll (c : Array Value) : Prop := ∀ i, i < c.size → (c.getD i undef).oneCell' = true
theorem oneAll_append {a b : Array Value} (ha : oneAll a) (hb : oneAll b) : oneAll (a ++ b) := by
  intro i hi
  rw [Array.getD_eq_getD_getElem?, Array.getElem?_append]
  by_cases h : i < a.size
  · rw [if_pos h]; have := ha i h; rwa [Array.getD_eq_getD_getElem?] at this
  · rw [if_neg h]; have := hb (i - a.size) (by simp at hi; omega); rwa [Array.getD_eq_getD_getElem?] at this

/-- What a slice that nobody changes holds, cell by cell. -/
theorem cellI_imm {I : IMap} {w : World} (h : ∀ n o, I n = some o → w.heap[n]? = some o) {b o : Nat} {x : Value} (hc : cellI I b o x) : w.cell? ⟨b, o, none⟩ = some x := by
  obtain ⟨c, e, fr, h1, h2⟩ := hc
  unfold World.cell?
  rw [h _ _ h1]; simp [h2]
theorem sl_cells {I : IMap} {size m : Nat} {els : List (List AV)} {v : Value} (h : Rel I (.sl size m els) v) :
    ∃ (a : Option Addr) (c : Nat) (o : Array Value), v = .slice a m c ∧ o.size = m * size ∧ RelL I els.flatten o ∧ oneAll o ∧ ∀ (P : Program) (w : World), (∀ n ob, I n = some ob → w.heap[n]? = some ob) → (Builtin.firstCells size m v).run P w = .ok o w := by
  cases h with
  | sl0 s a c =>
    refine ⟨a, c, #[], rfl, by simp, ⟨rfl, fun j hj => by simp at hj⟩, fun i hi => by simp at hi, fun P w hw => ?_⟩
    cases a <;> simp [Builtin.firstCells, loadCells, loadCellsFrom]
  | sl s m els b o c x hn hs hc hr h1 hcap =>
    by_cases hpos : size = 0
    · subst hpos
      refine ⟨_, _, #[], rfl, by simp, ⟨?_, fun j hj => ?_⟩, fun i hi => by simp at hi, fun P w hw => by simp [Builtin.firstCells, loadCells, loadCellsFrom]⟩
      · have : els.flatten = [] := by
          rw [List.flatten_eq_nil_iff]
          intro e he
          obtain ⟨i, hi, rfl⟩ := List.getElem_of_mem he
          have := hs i (by omega)
          rw [List.getD_eq_getElem?_getD, List.getElem?_eq_getElem hi] at this
          exact List.length_eq_zero_iff.1 this
        simp [this]
      · have : els.flatten = [] := by
          rw [List.flatten_eq_nil_iff]
          intro e he
          obtain ⟨i, hi, rfl⟩ := List.getElem_of_mem he
          have := hs i (by omega)
          rw [List.getD_eq_getElem?_getD, List.getElem?_eq_getElem hi] at this
          exact List.length_eq_zero_iff.1 this
        rw [this] at hj; simp at hj
    · have hpos : 0 < size := by omega
      have hel : ∀ e, e ∈ els → e.length = size := fun e he => by
        obtain ⟨i, hi, rfl⟩ := List.getElem_of_mem he
        have := hs i (by omega)
        rwa [List.getD_eq_getElem?_getD, List.getElem?_eq_getElem hi] at this
      have hfl : els.flatten.length = m * size := by
        rw [List.length_flatten]
        have : els.map List.length = List.replicate els.length size := List.eq_replicate_iff.2 ⟨by simp, fun x hx => by
          obtain ⟨y, hy, rfl⟩ := List.mem_map.1 hx
          exact hel y hy⟩
        rw [this, hn]; simp
      have hdm : ∀ k, k < m * size → k / size < m ∧ k % size < size ∧ k / size * size + k % size = k := fun k hk =>
        ⟨Nat.div_lt_of_lt_mul (by rw [Nat.mul_comm]; exact hk), Nat.mod_lt _ hpos, by rw [Nat.mul_comm]; exact Nat.div_add_mod k size⟩
      have hcell : ∀ w : World, (∀ n ob, I n = some ob → w.heap[n]? = some ob) → ∀ k, k < m * size → w.cell? ⟨b, o + k, none⟩ = some (x (k / size) (k % size)) := fun w hw k hk => by
        obtain ⟨g1, g2, g3⟩ := hdm k hk
        have := cellI_imm hw (hc (k / size) (k % size) g1 g2)
        rw [Nat.add_assoc, g3] at this; exact this
      refine ⟨_, _, ((List.range (m * size)).map fun k => x (k / size) (k % size)).toArray, rfl, by simp, ?_, ?_, fun P w hw => ?_⟩
      · refine relL_range _ (by rw [hfl]) (fun k hk => ?_)
        rw [hfl] at hk
        obtain ⟨g1, g2, g3⟩ := hdm k hk
        rw [flatten_getD els size hel k hpos]
        exact hr _ _ g1 g2
      · intro k hk
        have hk' : k < m * size := by simpa using hk
        obtain ⟨g1, g2, g3⟩ := hdm k hk'
        have : (((List.range (m * size)).map fun k => x (k / size) (k % size)).toArray.getD k undef) = x (k / size) (k % size) := by
          simp [Array.getD_eq_getD_getElem?, hk']
        rw [this]; exact h1 _ _ g1 g2
      · simp only [Builtin.firstCells]
        exact run_loadCells P w b o (m * size) _ (hcell w hw)

theorem nextslicecap_le (need c : Nat) (h : c < need) : Builtin.nextslicecap need c ≤ 2 * need + 192 := by
  unfold Builtin.nextslicecap
  split
  · omega
  · split
    · omega
    · have g : ∀ r c, c < need → Builtin.growBy need r c ≤ 2 * need + 192 := by
        intro r
        induction r with
        | zero => intro c hc; simp only [Builtin.growBy]; omega
        | succ r ih =>
          intro c hc
          simp only [Builtin.growBy]
          rw [if_neg (by omega)]
          by_cases h2 : c + (c + 768) / 4 < need
          · exact ih _ h2
          · cases r with
            | zero => simp only [Builtin.growBy]; omega
            | succ r => simp only [Builtin.growBy]; rw [if_pos (by omega)]; omega
      exact g 4 c h

def stOpt (a : Option Addr) (k : Nat) (o : List Value) : Sem Unit := match a with | some b => storeCells (b.add k) o | none => pure ()
section rules
variable {P : Program} {tt : Tab} {w0 : World} {ro : Option Nat} {n : Nat} {l : Env} {ds : List Deferred} {L : List Seg} {Q : Post}
variable {d : Tmp} {ty : TypeId} {gs : List GOp}

/-- append: what is behind it is one's own again. -/
theorem append_run (T : TabOk P tt) {I : IMap} {F : HL} {t e tx : TypeId} {i j k : TI} (hi : tlook tt t = some i) (hd : i.desc = .slice e) (hj : tlook tt e = some j) (hk : tlook tt tx = some k) (hkd : (∃ e2, k.desc = .slice e2) ∨ k.desc = .string)
    {w : World} {s : Seg} {xs : List AV} {a : Option Addr} {m c : Nat} (hB : Buf e j.size xs a m c s) (hinv : Inv w0 w I (s ++ F)) {q : Nat} {els : List AV} {x : Value} {o : Array Value} (hlen : (Builtin.lenOf x).run P w = .ok q w)
    (ho : o.size = q * j.size) (hor : RelL I els o) (hone : oneAll o) (hfc : ∀ w', (∀ n ob, I n = some ob → w'.heap[n]? = some ob) → (Builtin.firstCells j.size q x).run P w' = .ok o w')
    (hb1 : (m + q) * j.bytes ≤ 70368744177664) (hb2 : j.bytes ≤ 1048576) (hb3 : m + q ≤ 4611686018427387904) (hb4 : 0 < j.bytes) (ty : TypeId) :
    ∃ (v : Value) (w' : World) (a' : Option Addr) (c' : Nat) (s' : Seg), (Builtin.append_ #[t, tx] ty #[.slice a m c, x]).run P w = .ok v w' ∧ v = .slice a' (m + q) c' ∧ Buf e j.size (xs ++ els) a' (m + q) c' s' ∧ Inv w0 w' I (s' ++ F) := by
  have hu := run_underlying T hi w
  rw [hd] at hu
  have hu2 := run_underlying T hk w
  obtain ⟨info, z', hti, hti1, hti2, hti3⟩ := run_typeInfo T hj w
  have hIw : ∀ n ob, I n = some ob → w.heap[n]? = some ob := hinv.imm
  by_cases hcap : m + q ≤ c
  · have key : (Builtin.append_ #[t, tx] ty #[.slice a m c, x]).run P w = ((stOpt a (m * j.size) o.toList).run P w).andThen fun _ w' => .ok (.slice a (m + q) c) w' := by
      rcases hkd with ⟨e2, hkd⟩ | hkd <;> rw [hkd] at hu2 <;> cases a <;> simp [stOpt, Builtin.append_, hu, run_sizeOf T hj, hu2, hlen, hcap, hfc w hIw]
    rw [key]
    cases hB with
    | nil h =>
      have hq : q = 0 := by omega
      subst hq
      refine ⟨_, w, none, 0, [], rfl, rfl, ?_, hinv⟩
      have : els = [] := by
        have := hor.1; rw [ho] at this; simp at this; exact List.length_eq_zero_iff.1 this.symm
      subst this
      exact .nil (by simpa using h)
    | own b _ _ junk h1 h2 h3 =>
      obtain ⟨r, lo, hi', hb, hc, hf, _, hone'⟩ := hinv.row (b := b) (e := e) (cs := xs ++ junk) (by simp)
      have hle : m * j.size + els.length ≤ (xs ++ junk).length := by
        have := hor.1
        have h4 : (m + q) * j.size ≤ c * j.size := Nat.mul_le_mul_right _ hcap
        have h5 : (c - m) * j.size = c * j.size - m * j.size := Nat.sub_mul ..
        rw [Nat.add_mul] at h4
        rw [List.length_append, h1, h2, h5]
        omega
      have hol : o.toList.length = els.length := by simpa using hor.1
      obtain ⟨w', g1, g2, g3, g4, g5, g6, g7⟩ := run_storeCells P b (m * j.size) o.toList 0 w r e lo hi' hb (by rw [hc.1]; exact hf) (by rw [hol, hc.1]; omega) (fun v hv => by
        obtain ⟨p, hp, rfl⟩ := List.getElem_of_mem hv
        have hp' : p < o.size := by simpa using hp
        have := hone p hp'
        rw [Array.getD_eq_getD_getElem?, Array.getElem?_eq_getElem hp'] at this
        simpa using this)
      have hsp := relL_splice (off := m * j.size) hc hor hle
      have e2 : (o.zipIdx.foldl (fun cs (c, p) => cs.setIfInBounds (m * j.size + p) c) r) = ((o.toList.zipIdx 0).foldl (fun cs (c, p) => cs.setIfInBounds (m * j.size + p) c) r) := by
        rw [← Array.foldl_toList]; congr 1; simp
      rw [e2] at hsp
      have hcs : spliceA (xs ++ junk) (m * j.size) els = (xs ++ els) ++ junk.drop els.length := by
        unfold spliceA
        rw [← h1, List.take_append_of_le_length (Nat.le_refl _), List.take_length, List.drop_append]
        simp
      rw [hcs] at hsp
      have hlc : ((xs ++ els) ++ junk.drop els.length).length = (xs ++ junk).length := by
        simp at hle ⊢; omega
      refine ⟨.slice (some ⟨b, 0, none⟩) (m + q) c, w', some ⟨b, 0, none⟩, c, [(b, .row e ((xs ++ els) ++ junk.drop els.length))], ?_, rfl, ?_, ?_⟩
      · simp only [stOpt, add_at, Nat.zero_add, g1, Result.andThen_ok]
      · refine .own b (m + q) c _ ?_ ?_ hcap
        · have := hor.1; rw [List.length_append, h1, Nat.add_mul]; omega
        · have := hor.1
          rw [List.length_drop, h2, ← this, ho, ← Nat.sub_mul]; congr 1; omega
      · refine Inv.set (L := F) hinv (ao' := .row e ((xs ++ els) ++ junk.drop els.length)) ⟨_, lo, hi', rfl, hsp, by rw [hlc]; exact hf, fun i hi => splice_one (by rw [hc.1, hol]; omega) (fun p hp => hone' p (by rw [← hc.1]; exact hp)) (fun p hp => hone p (by simpa using hp)) i (by rw [hc.1, ← hlc]; exact hi)⟩ g2 g3 g4 g5 g6 g7
  · have hold : ∃ old : Array Value, (Builtin.firstCells j.size m (.slice a m c)).run P w.drew = .ok old w.drew ∧ RelL I xs old ∧ oneAll old ∧ old.size = m * j.size := by
      cases hB with
      | nil h => exact ⟨#[], by simp [Builtin.firstCells], by subst h; exact ⟨rfl, fun p hp => by simp at hp⟩, fun p hp => by simp at hp, by simp⟩
      | own b _ _ junk h1 h2 h3 =>
        obtain ⟨r, lo, hi', hb, hc, hf, hcell, hone'⟩ := hinv.row (b := b) (e := e) (cs := xs ++ junk) (by simp)
        refine ⟨((List.range (m * j.size)).map fun p => r.getD p undef).toArray, ?_, ?_, ?_, by simp⟩
        · simp only [Builtin.firstCells]
          exact run_loadCells P w.drew b 0 (m * j.size) _ (fun p hp => by
            have := hcell p (by simp; omega)
            rw [Nat.zero_add]; exact this)
        · refine relL_range _ h1.symm (fun p hp => ?_)
          have := hc.2 p (by simp; omega)
          rw [List.getD_eq_getElem?_getD, List.getElem?_append_left hp] at this
          rw [List.getD_eq_getElem?_getD]; exact this
        · intro p hp
          have hp' : p < m * j.size := by simpa using hp
          have : (((List.range (m * j.size)).map fun p => r.getD p undef).toArray.getD p undef) = r.getD p undef := by
            rw [Array.getD_eq_getD_getElem?]; simp [hp']
          rw [this]; exact hone' p (by simp; omega)
    obtain ⟨old, ho1, ho2, ho3, ho4⟩ := hold
    obtain ⟨z, hz, hz1, hz2, hz3⟩ := run_zeroValue T hj w.drew
    have hmax : ¬ (((m + q : Nat) : Int) > 9223372036854775807 ∧ (False ∨ j.bytes = 0)) := by omega
    have hns := nextslicecap_le (m + q) c (by omega)
    have hbig : Builtin.nextslicecap (m + q) c * j.bytes ≤ 281474976710656 := by
      calc Builtin.nextslicecap (m + q) c * j.bytes ≤ (2 * (m + q) + 192) * j.bytes := Nat.mul_le_mul_right _ hns
        _ = 2 * ((m + q) * j.bytes) + 192 * j.bytes := by rw [Nat.add_mul, Nat.mul_assoc]
        _ ≤ 281474976710656 := by omega
    generalize hnc : Question.cut (.appendCap (m + q) c e) (w.tape w.drawn (.appendCap (m + q) c e)) = nc
    have hnc' : m + q ≤ nc := by rw [← hnc]; simp only [Question.cut]; omega
    obtain ⟨info', z'', hti', _⟩ := run_typeInfo T hj w.drew
    have hmax' : ¬ (9223372036854775807 < (m : Int) + (q : Int) ∧ j.bytes = 0) := by omega
    have hbig' : ¬ (281474976710656 < Builtin.nextslicecap (m + q) c * j.bytes) := by omega
    have hfo : (Question.appendCap (m + q) c e).forced = false := rfl
    have hfd := hfc w.drew hIw
    have key : (Builtin.append_ #[t, tx] ty #[.slice a m c, x]).run P w = .ok (.slice (some ⟨w.heap.size, 0, none⟩) (m + q) nc) (w.drew.alloc (.cells (old ++ o ++ Builtin.zeroCells z.cells (nc - (m + q))) e)) := by
      rcases hkd with ⟨e2, hkd⟩ | hkd <;> rw [hkd] at hu2 <;>
        simp [Builtin.append_, hu, run_sizeOf T hj, hu2, hlen, hcap, hti, hti2, hmax', hbig', hfo, hti', ho1, hfd, hz, hnc, newRow]
    have hl : z.cells.size = j.size := hz2
    have hzl : j.zero.length = j.size := by rw [← hz1, ← hl]; simp
    have hzc := zeroCells_ok (I := I) hz1 hz3 (nc - (m + q))
    rw [hzl] at hzc
    have hzs : (Builtin.zeroCells z.cells (nc - (m + q))).size = (nc - (m + q)) * j.size := by simp [Builtin.zeroCells, hl]
    refine ⟨_, _, some ⟨w.heap.size, 0, none⟩, nc, [(w.heap.size, .row e ((xs ++ els) ++ List.replicate ((nc - (m + q)) * j.size) .any))], key, rfl, ?_, ?_⟩
    · refine .own _ _ _ _ ?_ (by simp) hnc'
      have h1 := ho2.1; have h2 := hor.1
      rw [List.length_append, Nat.add_mul]; omega
    · have hrow : (AObj.row e ((xs ++ els) ++ List.replicate ((nc - (m + q)) * j.size) .any)).ok I (.cells (old ++ o ++ Builtin.zeroCells z.cells (nc - (m + q))) e) := by
        refine row_ok (relL_append (relL_append ho2 hor) hzc.1) ?_
        have hall : oneAll (old ++ o ++ Builtin.zeroCells z.cells (nc - (m + q))) := oneAll_append (oneAll_append ho3 hone) (fun i hi => hzc.2 i (by rw [hzs] at hi; exact hi))
        intro i hi
        refine hall i ?_
        have h1 := ho2.1; have h2 := hor.1
        simp only [Array.size_append, hzs]
        simp only [List.length_append, List.length_replicate] at hi
        omega
      have hdrop : Inv w0 w.drew I F := hinv.drew.sub (List.sublist_append_right _ _)
      exact hdrop.alloc hrow

/-- A slice that owns its row, told element by element. -/
structure Bf (e size : Nat) (els : List (List AV)) (a : Option Addr) (m c : Nat) (s : Seg) : Prop where
  buf : Buf e size els.flatten a m c s
  len : els.length = m
  el : ∀ x, x ∈ els → x.length = size
theorem Bf.nil (e size : Nat) : Bf e size [] none 0 0 [] := ⟨.nil rfl, rfl, fun x hx => by simp at hx⟩
theorem sl_els {I : IMap} {size m : Nat} {els : List (List AV)} {v : Value} (h : Rel I (.sl size m els) v) : els.length = m ∧ ∀ x, x ∈ els → x.length = size := by
  cases h with
  | sl0 => exact ⟨rfl, fun x hx => by simp at hx⟩
  | sl s m els b o c x hn hs hc hr h1 hcap => exact ⟨hn, fun e he => by
      obtain ⟨i, hi, rfl⟩ := List.getElem_of_mem he
      have := hs i (by omega)
      rwa [List.getD_eq_getElem?_getD, List.getElem?_eq_getElem hi] at this⟩

/-- append to a slice of one's own, of what nobody changes. -/
theorem SO.app (T : TabOk P tt) {t e tx : TypeId} {i j k : TI} {x y : Operand} {m q c : Nat} {a : Option Addr} {s : Seg} {els0 els : List (List AV)} {L2 : Seg → List Seg}
    (hx : ev l x = .v (.slice a m c)) (hB : Bf e j.size els0 a m c s) (hy : Sub (ev l y) (.sl j.size q els)) (hi : tlook tt t = some i) (hd : i.desc = .slice e) (hj : tlook tt e = some j) (hk' : tlook tt tx = some k) (hkd : ∃ e2, k.desc = .slice e2)
    (hu : ∀ s', Up L s s' (L2 s')) (hb1 : (m + q) * j.bytes ≤ 70368744177664) (hb2 : j.bytes ≤ 1048576) (hb3 : m + q ≤ 4611686018427387904) (hb4 : 0 < j.bytes)
    (hk : ∀ a' c' s', Bf e j.size (els0 ++ els) a' (m + q) c' s' → SO P w0 ro n gs ((d, .v (.slice a' (m + q) c')) :: l) ds (L2 s') Q) :
    SO P w0 ro n (⟨some d, .call ⟨.builtin .append, #[x, y], #[t, tx]⟩, ty, none⟩ :: gs) l ds L Q := by
  refine SO.valueW rfl (by intro c; simp [GOp.o_mk]) fun w I F ac hiv he => ?_
  have g1 := he.ev x; rw [hx] at g1
  generalize e1 : ac.eval x = xv at g1
  cases g1
  have g2 := hy _ _ (he.ev y)
  generalize e2 : ac.eval y = yv at g2
  obtain ⟨G, p1, _⟩ := (hu s).perm F
  have hiv' := hiv.perm p1
  have hels := sl_els g2
  obtain ⟨b, cc, o, h1, h2, h3, h4, h5⟩ := sl_cells g2
  subst h1
  obtain ⟨v, w', a', c', s', r1, r2, r3, r4⟩ := append_run T hi hd hj hk' (.inl hkd) hB.buf hiv' (x := .slice b q cc) (q := q) (els := els.flatten) (o := o) (by simp [Builtin.lenOf]) h2 h3 h4 (fun w'' hw'' => h5 P w'' hw'') hb1 hb2 hb3 hb4 ty
  subst r2
  have hBf : Bf e j.size (els0 ++ els) a' (m + q) c' s' := by
    refine ⟨by rw [List.flatten_append]; exact r3, by simp [hB.len, hels.1], fun x hx => ?_⟩
    rcases List.mem_append.1 hx with h | h
    · exact hB.el x h
    · exact hels.2 x h
  refine ⟨_, w', I, _, L2 s', ?_, IMap.le_refl I, .v _, ?_, hk a' c' s' hBf⟩
  · simp only [GOp.o_mk, execOp, resolve, invoke, builtin, Sem.run_bind, Sem.run_pure, Result.andThen_ok, List.map_toArray, List.map_cons, List.map_nil, e1, e2, r1]
  · obtain ⟨G', p1', p2'⟩ := (hu s').perm F
    have pg : G.Perm G' := (List.perm_append_left_iff s).1 (p1.symm.trans p1')
    exact r4.perm ((List.Perm.append_left s' pg).trans p2'.symm)
/-- append to nil. -/
theorem SO.app0 (T : TabOk P tt) {t e tx : TypeId} {i j k : TI} {x y : Operand} {q : Nat} {els : List (List AV)}
    (hx : ev l x = .v (.slice none 0 0)) (hy : Sub (ev l y) (.sl j.size q els)) (hi : tlook tt t = some i) (hd : i.desc = .slice e) (hj : tlook tt e = some j) (hk' : tlook tt tx = some k) (hkd : ∃ e2, k.desc = .slice e2)
    (hb1 : q * j.bytes ≤ 70368744177664) (hb2 : j.bytes ≤ 1048576) (hb3 : q ≤ 4611686018427387904) (hb4 : 0 < j.bytes)
    (hk : ∀ a' c' s', Bf e j.size els a' q c' s' → SO P w0 ro n gs ((d, .v (.slice a' q c')) :: l) ds (s' :: L) Q) :
    SO P w0 ro n (⟨some d, .call ⟨.builtin .append, #[x, y], #[t, tx]⟩, ty, none⟩ :: gs) l ds L Q := by
  have h := SO.app (ro := ro) (n := n) (l := l) (L := [] :: L) (d := d) (ty := ty) (gs := gs) (Q := Q) (ds := ds) (w0 := w0) T hx (Bf.nil e j.size) hy hi hd hj hk' hkd (L2 := fun s' => s' :: L) (fun s' => .here) (by rw [Nat.zero_add]; exact hb1) hb2 (by omega) hb4
    (fun a' c' s' hB => by rw [Nat.zero_add] at hB ⊢; exact hk a' c' s' hB)
  exact h.perm (by simp)

/-- What is one's own becomes what nobody changes. -/
theorem SO.frz {e size m c : Nat} {els : List (List AV)} {a : Option Addr} {s : Seg} {L1 : List Seg} (k : Nat) (hx : lk l k = .v (.slice a m c)) (hB : Bf e size els a m c s) (hr : Rm L s L1)
    (hk : SO P w0 ro n gs ((k, .sl size m els) :: l) ds L1 Q) : SO P w0 ro n gs l ds L Q := by
  refine ⟨fun ok w I F ac hiv he hd => ?_⟩
  have hp : (L.flatten ++ F).Perm (s ++ (L1.flatten ++ F)) := by rw [← List.append_assoc]; exact List.Perm.append_right F hr.perm
  have hiv' := hiv.perm hp
  have hlk := he.2 k
  rw [hx] at hlk
  have fin : ∀ J : IMap, I.le J → Inv w0 w J (L1.flatten ++ F) → Rel J (.sl size m els) (.slice a m c) → wpG (fence ro) P (postW w0 n I F Q) gs ac w := by
    intro J hJ hi2 hrel
    have he2 : EnvOk J n ac.tmps ((k, .sl size m els) :: l) := by
      refine ⟨he.1, fun q => ?_⟩
      simp only [lk]
      cases hq : Nat.beq k q with
      | false => exact (he.2 q).mono hJ
      | true =>
        have := Nat.eq_of_beq_eq_true hq
        subst this
        generalize ac.tmps.getD k undef = y at hlk
        cases hlk
        exact hrel
    exact wpG_mono (fun e a w hq => hq.up hJ) gs _ _ (hk.out ok w J F ac hi2 he2 hd)
  obtain ⟨hb, hlen, hel⟩ := hB
  cases hb with
  | nil h =>
    have : els = [] := List.length_eq_zero_iff.1 hlen
    subst this
    exact fin I (IMap.le_refl I) (by simpa using hiv') (.sl0 _ _ _)
  | own b _ _ junk h1 h2 h3 =>
    obtain ⟨r, lo, hi', hb, hc, hf, hcell, hone⟩ := hiv'.row (b := b) (e := e) (cs := els.flatten ++ junk) (by simp)
    obtain ⟨J, hJ, hJb, hi2⟩ := Inv.freeze (by simpa using hiv') hb
    refine fin J hJ hi2 ?_
    refine .sl size m els b 0 c (fun p q => r.getD (p * size + q) undef) hlen (fun p hp => ?_) (fun p q hp hq => ?_) (fun p q hp hq => ?_) (fun p q hp hq => ?_) h3
    · have hp' : p < els.length := by omega
      rw [List.getD_eq_getElem?_getD, List.getElem?_eq_getElem hp']
      exact hel _ (List.getElem_mem hp')
    all_goals
      have hlt : p * size + q < els.flatten.length := by
        rw [h1]
        calc p * size + q < p * size + size := by omega
          _ = (p + 1) * size := by rw [Nat.add_mul, Nat.one_mul]
          _ ≤ m * size := Nat.mul_le_mul_right _ (by omega)
    · have hlt2 : p * size + q < r.size := by rw [hc.1, List.length_append]; omega
      refine ⟨r, e, (lo, hi'), hJb, ?_⟩
      rw [Nat.zero_add, Array.getD_eq_getD_getElem?, Array.getElem?_eq_getElem hlt2]; rfl
    · have := (hc.2 (p * size + q) (by rw [List.length_append]; omega)).mono hJ
      rw [List.getD_eq_getElem?_getD, List.getElem?_append_left hlt] at this
      have h4 := flatten_getD els size hel (p * size + q) (by omega)
      have h5 : (p * size + q) / size = p := by rw [Nat.mul_comm, Nat.mul_add_div (by omega), Nat.div_eq_of_lt hq]; rfl
      have h6 : (p * size + q) % size = q := by rw [Nat.mul_comm, Nat.mul_add_mod, Nat.mod_eq_of_lt hq]
      rw [h5, h6] at h4
      rw [← h4, List.getD_eq_getElem?_getD]; exact this
    · exact hone _ (by rw [List.length_append]; omega)
end rules
end Ab
