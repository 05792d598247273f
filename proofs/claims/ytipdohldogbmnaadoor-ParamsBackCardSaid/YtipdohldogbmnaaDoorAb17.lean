/- Arithmetic on bits, conversions between strings and bytes, strings, parts of slices as reads. They ask that a table of types is the program's. -/
import Derived.Test.YtipdohldogbmnaaDoorAb16
import Derived.Laws.BytesString
set_option autoImplicit false
set_option linter.unusedVariables false
set_option linter.unusedSimpArgs false
namespace Ab
open Go Go.RowKit

/-! ### Arithmetic -/
theorem opShl {k k' : IntKind} {a b : Int} (h : 0 ≤ b) : OpR .shl k a k' b (k.wrap (a * 2 ^ (min b.toNat k.bits))) := ⟨fun P t w => by
  have : ¬ b < 0 := by omega
  simp [binOp, Op.shift, this]⟩
theorem opShr {k k' : IntKind} {a b : Int} (h : 0 ≤ b) : OpR .shr k a k' b (a.fdiv (2 ^ (min b.toNat k.bits))) := ⟨fun P t w => by
  have : ¬ b < 0 := by omega
  simp [binOp, Op.shift, this]⟩
theorem opAnd {k : IntKind} {a b : Int} : OpR .and k a k b (k.wrap (BitVec.ofInt k.bits a &&& BitVec.ofInt k.bits b).toNat) := ⟨fun P t w => by simp [binOp, Op.intBits]⟩
theorem opOr {k : IntKind} {a b : Int} : OpR .or k a k b (k.wrap (BitVec.ofInt k.bits a ||| BitVec.ofInt k.bits b).toNat) := ⟨fun P t w => by simp [binOp, Op.intBits]⟩
theorem opQuo {k : IntKind} {a b : Int} (h : b ≠ 0) : OpR .quo k a k b (k.wrap (a.tdiv b)) := ⟨fun P t w => by simp [binOp, Op.intDiv, h]⟩
theorem opRem {k : IntKind} {a b : Int} (h : b ≠ 0) : OpR .rem k a k b (a.tmod b) := ⟨fun P t w => by simp [binOp, Op.intDiv, h]⟩
theorem OpR.to {op : BinOp} {k k' : IntKind} {a b c c' : Int} (h : OpR op k a k' b c) (e : c = c') : OpR op k a k' b c' := e ▸ h

/-! ### Bytes -/
/-- A byte's cells; a slice of bytes that nobody changes. -/
def bA (b : UInt8) : List AV := [.v (.int .u8 b.toNat)]
abbrev aB (bs : List UInt8) : AV := .sl 1 bs.length (bs.map bA)
theorem bA_len (b : UInt8) : (bA b).length = 1 := rfl
theorem bAs_el {bs : List UInt8} {e : List AV} (h : e ∈ bs.map bA) : e.length = 1 := by
  obtain ⟨b, _, rfl⟩ := List.mem_map.1 h; rfl
theorem bA_flat (bs : List UInt8) : (bs.map bA).flatten = bs.map fun b => AV.v (.int .u8 b.toNat) := by
  induction bs with
  | nil => rfl
  | cons b r ih => simp [bA, ← ih]
theorem bytes_vals {I : IMap} {bs : List UInt8} {o : Array Value} (h : RelL I (bs.map bA).flatten o) : o = (bs.map fun b => Value.int .u8 b.toNat).toArray := by
  rw [bA_flat] at h
  apply Array.ext
  · simpa using h.1
  · intro i h1 h2
    have := h.2 i (by simpa using h2)
    simp at h2
    rw [List.getD_eq_getElem?_getD, Array.getD_eq_getD_getElem?, Array.getElem?_eq_getElem h1, List.getElem?_map, List.getElem?_eq_getElem h2] at this
    simp only [Option.map_some, Option.getD_some] at this
    generalize o[i] = v at this
    cases this
    simp
theorem push_bytes (bs : List UInt8) (s : ByteArray) : (bs.map fun b => ((b.toNat : Nat) : Int)).foldl (fun r n => r.push (UInt8.ofNat n.toNat)) s = ⟨s.data ++ bs.toArray⟩ := by
  induction bs generalizing s with
  | nil => simp
  | cons b r ih =>
    simp only [List.map_cons, List.foldl_cons, ih]
    congr 1
    simp [ByteArray.push]

section rules
variable {P : Program} {tt : Tab} {w0 : World} {ro : Option Nat} {n : Nat} {D : List DOp} {M : List Seg} {ds : List Deferred} {Q : Post} {rem : List Nat} {l : Env} {L L1 Lx : List Seg} {gs : List GOp}
variable {d : Option Tmp} {ty : TypeId}

/-- string(bytes). -/
theorem Rdp.b2s (T : TabOk P tt) {s t e : TypeId} {x : Operand} {i j k : TI} {m : Nat} {bs : List UInt8} (hx : ev l x = .sl 1 m (bs.map bA)) (hs : tlook tt s = some i) (hd : i.desc = .slice e) (he' : tlook tt e = some j) (hj : j.desc = .int .u8)
    (ht : tlook tt t = some k) (hk : k.desc = .string) : Rdp P w0 n M l ⟨d, .convert s t x, ty, none⟩ (.v (.string ⟨bs.toArray⟩)) := by
  refine ⟨fun w I F ac hiv he => ?_⟩
  refine ⟨_, ?_, .v _⟩
  have h1 := he.ev x; rw [hx] at h1
  generalize e1 : ac.eval x = xv at h1
  have hu := run_underlying T hs w
  rw [hd] at hu
  have hu2 := run_underlying T ht w
  rw [hk] at hu2
  have hu3 := run_underlying T he' w
  rw [hj] at hu3
  obtain ⟨a, c, o, rfl, hsz, hrel, _, hfc⟩ := sl_cells h1
  have hlen : m = bs.length := by
    have := hrel.1; rw [hsz, bA_flat] at this; simpa using this
  have key : (Conv.bytesToString (.slice a m c)).run P w = .ok (.string ⟨bs.toArray⟩) w := by
    cases a with
    | none =>
      generalize hz : bs.map bA = zs at h1
      cases h1
      have : bs = [] := by simpa using hz
      subst this
      rfl
    | some a =>
      have hl := hfc P w hiv.imm
      simp only [Builtin.firstCells] at hl
      rw [bytes_vals hrel] at hl
      have hl' : (loadCells a m).run P w = .ok ((bs.map fun b => ((b.toNat : Nat) : Int)).map (Value.int .u8)).toArray w := by
        rw [show m = m * 1 by omega]
        simpa [Function.comp_def] using hl
      rw [run_bytesToString w a m c _ hl', push_bytes]
      simp
  simp only [GOp.o_mk, execOp, e1, convert, Sem.run_bind, hu, hu2, hu3, Result.andThen_ok, key, Sem.run_pure]

theorem relL_bytes {I : IMap} (bs : List UInt8) : RelL I (bs.map bA).flatten (bs.map fun b => Value.int .u8 b.toNat).toArray := by
  rw [bA_flat]
  refine ⟨by simp, fun j hj => ?_⟩
  simp at hj
  simp only [List.getD_eq_getElem?_getD, Array.getD_eq_getD_getElem?, List.getElem?_map, List.getElem?_eq_getElem hj, Option.map_some, Option.getD_some, List.getElem?_toArray]
  exact .v _
/-- A row of one's own of which a part behind its cells is marked. -/
theorem Inv.mark {w : World} {I : IMap} {b : Nat} {e : TypeId} {cs : List AV} {F : HL} (h : Inv w0 w I ((b, .row e cs) :: F)) :
    (markStringish ⟨b, 0, none⟩).run P w = .ok () (w.freeze ⟨b, cs.length, none⟩ 1) ∧ Inv w0 (w.freeze ⟨b, cs.length, none⟩ 1) I ((b, .row e cs) :: F) := by
  obtain ⟨c, lo, hi, hb, hc, hf, _, hone⟩ := h.row (b := b) (e := e) (cs := cs) (by simp)
  have hs : w.shape? b = some (e, c.size) := by unfold World.shape?; rw [hb]
  refine ⟨by simp [markStringish, hs, hc.1], ?_⟩
  have hheap : (w.freeze ⟨b, cs.length, none⟩ 1).heap[b]? = some (.cells c e (if lo == hi then (cs.length, cs.length + 1) else (min lo cs.length, max hi (cs.length + 1)))) := by
    simp only [World.freeze, Nat.one_ne_zero, if_false, Array.getElem?_modify, hb]
    simp
  refine Inv.set h (o := .cells c e (if lo == hi then (cs.length, cs.length + 1) else (min lo cs.length, max hi (cs.length + 1)))) ?_ rfl rfl rfl ?_ hheap ?_
  · by_cases hlh : lo = hi
    · have : (lo == hi) = true := by simp [hlh]
      rw [this]
      exact ⟨c, _, _, rfl, hc, .inr (Nat.le_refl _), hone⟩
    · have : (lo == hi) = false := by simp [hlh]
      rw [this]
      refine ⟨c, _, _, rfl, hc, .inr ?_, hone⟩
      rcases hf with h1 | h1
      · exact absurd h1 hlh
      · omega
  · simp [World.freeze]
  · intro k hk
    simp only [World.freeze, Nat.one_ne_zero, if_false, Array.getElem?_modify]
    rw [if_neg (by simpa using fun e => hk e.symm)]
/-- []byte(string). -/
theorem SO.s2b (T : TabOk P tt) {d : Tmp} {s t e : TypeId} {x : Operand} {i j k : TI} {str : ByteArray} (hx : ev l x = .v (.string str)) (hs : tlook tt s = some k) (hk' : k.desc = .string) (ht : tlook tt t = some i) (hd : i.desc = .slice e)
    (he' : tlook tt e = some j) (hj : j.desc = .int .u8)
    (hk : ∀ a' c' s', Bf e 1 (str.data.toList.map bA) a' str.size c' s' → SO P w0 ro n gs ((d, .v (.slice a' str.size c')) :: l) ds (s' :: L) Q) : SO P w0 ro n (⟨some d, .convert s t x, ty, none⟩ :: gs) l ds L Q := by
  refine SO.valueW rfl (by intro c; simp [GOp.o_mk]) fun w I F ac hiv he => ?_
  have h1 := he.ev x; rw [hx] at h1
  generalize e1 : ac.eval x = xv at h1
  cases h1
  have hu := run_underlying T hs w
  rw [hk'] at hu
  have hu2 := run_underlying T ht w
  rw [hd] at hu2
  have hu3 := run_underlying T he' w
  rw [hj] at hu3
  obtain ⟨cap, hcap, hrun⟩ : ∃ cap, str.size ≤ cap ∧ (choose (.appendCap str.size 0 e)).run P w = .ok cap w.drew := by
    refine ⟨_, ?_, by rw [run_choose]; rfl⟩
    simp only [Question.cut]
    omega
  let cells : Array Value := (str.data.map fun b => Value.int .u8 b.toNat) ++ Array.replicate (cap - str.size) (.int .u8 0)
  have hsz : str.data.size = str.size := rfl
  have hrow : (AObj.row e ((str.data.toList.map bA).flatten ++ List.replicate (cap - str.size) (.v (.int .u8 0)))).ok I (.cells cells e) := by
    have hr : RelL I ((str.data.toList.map bA).flatten ++ List.replicate (cap - str.size) (.v (.int .u8 0))) cells := by
      refine relL_append ?_ ⟨by simp, fun j hj => ?_⟩
      · have := relL_bytes (I := I) str.data.toList
        have e : (str.data.toList.map fun b => Value.int .u8 b.toNat).toArray = str.data.map fun b => Value.int .u8 b.toNat := by
          apply Array.ext
          · simp
          · intro i h1 h2; simp
        rwa [e] at this
      · simp at hj
        have hj2 : j < cap - str.size := by omega
        simp [List.getD_eq_getElem?_getD, Array.getD_eq_getD_getElem?, hj2, List.getElem?_replicate]
        exact .v _
    refine row_ok hr fun q hq => ?_
    have hq2 : q < cells.size := by rw [hr.1]; exact hq
    rw [Array.getD_eq_getD_getElem?, Array.getElem?_eq_getElem hq2]
    simp only [Option.getD_some]
    have : ∀ v, v ∈ cells → v.oneCell' = true := by
      intro v hv
      rcases Array.mem_append.1 hv with h | h
      · obtain ⟨b, _, rfl⟩ := Array.mem_map.1 h; rfl
      · rw [Array.mem_replicate] at h; rw [h.2]; rfl
    exact this _ (Array.getElem_mem hq2)
  have hinv := (hiv.drew).alloc hrow
  obtain ⟨m1, m2⟩ := Inv.mark (P := P) hinv
  refine ⟨.slice (some ⟨w.heap.size, 0, none⟩) str.size cap, _, I, AV.v (.slice (some ⟨w.heap.size, 0, none⟩) str.size cap), [(w.heap.size, .row e ((str.data.toList.map bA).flatten ++ List.replicate (cap - str.size) (AV.v (.int .u8 0))))] :: L, ?_, IMap.le_refl I, Rel.v _, m2, hk _ _ _ ⟨.own w.heap.size str.size cap _ (by rw [bA_flat]; simp [hsz]) (by simp) hcap, by simp [hsz], fun x hx => bAs_el hx⟩⟩
  have hconv : (Conv.stringToBytes e str).run P w = .ok (.slice (some ⟨w.heap.size, 0, none⟩) str.size cap) ((w.drew.alloc (.cells cells e)).freeze ⟨w.heap.size, ((str.data.toList.map bA).flatten ++ List.replicate (cap - str.size) (AV.v (.int .u8 0))).length, none⟩ 1) := by
    have m1' : (markStringish ⟨w.heap.size, 0, none⟩).run P (w.drew.alloc (.cells cells e)) = _ := m1
    simp only [Conv.stringToBytes, Sem.run_bind, hrun, Result.andThen_ok, newRow, run_newObj, Sem.run_pure]
    show ((markStringish ⟨w.heap.size, 0, none⟩).run P (w.drew.alloc (.cells cells e))).andThen _ = _
    rw [m1']
    rfl
  simp only [GOp.o_mk, execOp, e1, convert, Sem.run_bind, hu, hu2, hu3, Result.andThen_ok, hconv, Sem.run_pure]
  rfl
/-- []byte(bytes), bytes of one's own: a mark behind them. -/
theorem SO.mrk (T : TabOk P tt) {d : Tmp} {s e e2 : TypeId} {x : Operand} {i j : TI} {els : List (List AV)} {b m c : Nat} {sg : Seg} (hx : ev l x = .v (.slice (some ⟨b, 0, none⟩) m c)) (hB : Bf e2 1 els (some ⟨b, 0, none⟩) m c sg)
    (hs : tlook tt s = some i) (hd : i.desc = .slice e) (he' : tlook tt e = some j) (hj : j.desc = .int .u8) (hu : Rm L sg L1)
    (hk : SO P w0 ro n gs ((d, .v (.slice (some ⟨b, 0, none⟩) m c)) :: l) ds (sg :: L1) Q) : SO P w0 ro n (⟨some d, .convert s s x, ty, none⟩ :: gs) l ds L Q := by
  refine SO.valueW rfl (by intro c; simp [GOp.o_mk]) fun w I F ac hiv he => ?_
  have h1 := he.ev x; rw [hx] at h1
  generalize e1 : ac.eval x = xv at h1
  cases h1
  have hu1 := run_underlying T hs w
  rw [hd] at hu1
  have hu3 := run_underlying T he' w
  rw [hj] at hu3
  obtain ⟨hb, hlen, hel⟩ := hB
  cases hb with
  | own b _ _ junk h1 h2 h3 =>
    have hinv := hiv.perm (List.Perm.append_right F hu.perm)
    obtain ⟨m1, m2⟩ := Inv.mark (P := P) (F := L1.flatten ++ F) (by simpa using hinv)
    refine ⟨.slice (some ⟨b, 0, none⟩) m c, w.freeze ⟨b, (els.flatten ++ junk).length, none⟩ 1, I, _, [(b, .row e2 (els.flatten ++ junk))] :: L1, ?_, IMap.le_refl I, .v _, m2, hk⟩
    simp only [GOp.o_mk, execOp, e1, convert, Sem.run_bind, hu1, hu3, Result.andThen_ok, beq_self_eq_true, m1, Sem.run_pure]

/-! ### Strings -/
theorem Rdp.sidx (T : TabOk P tt) {t : TypeId} {x y : Operand} {i : TI} {s : ByteArray} {k : IntKind} {a : Int} (hx : ev l x = .v (.string s)) (hy : ev l y = .v (.int k a)) (hi : tlook tt t = some i) (hd : i.desc = .string) (h0 : 0 ≤ a) (h1 : a < s.size) :
    Rdp P w0 n M l ⟨d, .index t x y, ty, none⟩ (.v (.int .u8 (s.data.toList.getD a.toNat 0).toNat)) := by
  refine ⟨fun w I F ac hiv he => ?_⟩
  refine ⟨_, ?_, .v _⟩
  have g1 := he.ev x; rw [hx] at g1
  generalize e1 : ac.eval x = xv at g1
  have g2 := he.ev y; rw [hy] at g2
  generalize e2 : ac.eval y = yv at g2
  cases g1; cases g2
  have hu := run_underlying T hi w
  rw [hd] at hu
  have hlt : a.toNat < s.size := by omega
  have hlt2 : a.toNat < s.data.size := hlt
  have hg : s[a.toNat]? = some (s.data.toList.getD a.toNat 0) := by
    rw [getElem?_pos s a.toNat hlt]
    simp only [List.getD_eq_getElem?_getD, Array.getElem?_toList, Array.getElem?_eq_getElem hlt2, Option.getD_some]
    rfl
  simp only [GOp.o_mk, execOp, e1, e2, Instr.index, asIntOf, Sem.run_bind, Sem.run_pure, Result.andThen_ok, hu, h0, if_true, hg]

/-! ### Parts of slices that nobody changes -/
theorem Rdp.slc (T : TabOk P tt) {t e : TypeId} {i j : TI} {x : Operand} {size m : Nat} {els : List (List AV)} {lo hi' : Option Operand} {a b : Option Int} (hx : Sub (ev l x) (.sl size m els)) (hlo : boundE l lo a) (hhi : boundE l hi' b)
    (hi : tlook tt t = some i) (hd : i.desc = .slice e) (hj : tlook tt e = some j) (hz : j.size = size) (h0 : 0 ≤ a.getD 0) (h1 : a.getD 0 ≤ b.getD m) (h2 : b.getD m ≤ m) :
    Rdp P w0 n M l ⟨d, .slice t x lo hi' none, ty, none⟩ (.sl size ((b.getD m).toNat - (a.getD 0).toNat) ((els.drop (a.getD 0).toNat).take ((b.getD m).toNat - (a.getD 0).toNat))) := by
  subst hz
  refine ⟨fun w I F ac hiv he => ?_⟩
  have g1 := hx _ _ (he.ev x)
  generalize e1 : ac.eval x = xv at g1
  have hsh : ∃ ad c, xv = .slice ad m c ∧ m ≤ c := by
    cases g1 with
    | sl0 s ad c => exact ⟨ad, c, rfl, Nat.zero_le _⟩
    | sl s m els b o c f hn hs hc hr h1' hcap => exact ⟨_, c, rfl, hcap⟩
  obtain ⟨ad, c, rfl, hm⟩ := hsh
  have hrun := slc_run T he hi hd hj (w := w) (a := ad) hm hlo hhi h0 h1 h2
  have hrel := rel_part g1 (lo := (a.getD 0).toNat) (hi := (b.getD m).toNat) (mx := c) (by omega) (by omega) (by omega) (Nat.le_refl _)
  exact ⟨_, by simp only [GOp.o_mk, execOp, e1, Option.map_none, Sem.run_bind, hrun, Result.andThen_ok, Sem.run_pure], hrel⟩
/-- Lists in the place of elements' cells. -/
theorem Rdp.slM (T : TabOk P tt) {α : Type} {xs : List α} {f : α → List AV} {t e : TypeId} {i j : TI} {x : Operand} {size : Nat} {lo hi' : Option Operand} {a b : Option Int} {p q : Nat} (hx : ev l x = .sl size xs.length (xs.map f)) (hlo : boundE l lo a) (hhi : boundE l hi' b)
    (hi : tlook tt t = some i) (hd : i.desc = .slice e) (hj : tlook tt e = some j) (hz : j.size = size) (hp : a.getD 0 = p) (hq : b.getD xs.length = q) (h1 : p ≤ q) (h2 : q ≤ xs.length) :
    Rdp P w0 n M l ⟨d, .slice t x lo hi' none, ty, none⟩ (.sl size ((xs.drop p).take (q - p)).length (((xs.drop p).take (q - p)).map f)) := by
  have := Rdp.slc (P := P) (w0 := w0) (n := n) (M := M) (d := d) (ty := ty) T (l := l) (x := x) (by rw [hx]; exact Sub.refl _) hlo hhi hi hd hj hz (by omega) (by omega) (by omega)
  rw [hp, hq] at this
  have e1 : ((xs.drop p).take (q - p)).length = q - p := by simp; omega
  rw [e1, List.map_take, List.map_drop]
  simpa using this

/-! ### min, max -/
theorem Rdp.min2 {x y : Operand} {k : IntKind} {a b : Int} {ts : Array TypeId} (hx : ev l x = .v (.int k a)) (hy : ev l y = .v (.int k b)) : Rdp P w0 n M l ⟨d, .call ⟨.builtin .min, #[x, y], ts⟩, ty, none⟩ (.v (.int k (if b < a then b else a))) := by
  refine ⟨fun w I F ac hiv he => ?_⟩
  refine ⟨_, ?_, .v _⟩
  have g1 := he.ev x; rw [hx] at g1
  generalize e1 : ac.eval x = xv at g1
  have g2 := he.ev y; rw [hy] at g2
  generalize e2 : ac.eval y = yv at g2
  cases g1; cases g2
  simp only [GOp.o_mk, execOp, resolve, invoke, builtin, Builtin.min_, Builtin.min2, Sem.run_bind, Sem.run_pure, Result.andThen_ok, List.map_toArray, List.map_cons, List.map_nil, e1, e2, List.foldlM]
theorem Rdp.max2 {x y : Operand} {k : IntKind} {a b : Int} {ts : Array TypeId} (hx : ev l x = .v (.int k a)) (hy : ev l y = .v (.int k b)) : Rdp P w0 n M l ⟨d, .call ⟨.builtin .max, #[x, y], ts⟩, ty, none⟩ (.v (.int k (if b > a then b else a))) := by
  refine ⟨fun w I F ac hiv he => ?_⟩
  refine ⟨_, ?_, .v _⟩
  have g1 := he.ev x; rw [hx] at g1
  generalize e1 : ac.eval x = xv at g1
  have g2 := he.ev y; rw [hy] at g2
  generalize e2 : ac.eval y = yv at g2
  cases g1; cases g2
  simp only [GOp.o_mk, execOp, resolve, invoke, builtin, Builtin.max_, Builtin.max2, Sem.run_bind, Sem.run_pure, Result.andThen_ok, List.map_toArray, List.map_cons, List.map_nil, e1, e2, List.foldlM]

/-- Is a slice nil? If it has an element, it is not. -/
theorem SO.eqN (T : TabOk P tt) {d : Tmp} {t yt e : TypeId} {i : TI} {x : Operand} {c1 c2 : Nat} {size m : Nat} {els : List (List AV)} (hx : ev l x = .sl size m els) (hi : tlook tt t = some i) (hd : i.desc = .slice e)
    (hk : ∀ b : Bool, (0 < m → b = false) → SO P w0 ro n gs ((d, .v (.bool b)) :: l) ds L Q) : SO P w0 ro n (⟨some d, .binOp .eql t x (.const (.slice none c1 c2)) yt, ty, none⟩ :: gs) l ds L Q := by
  refine SO.valueW rfl (by intro c; simp [GOp.o_mk]) fun w I F ac hiv he => ?_
  have g1 := he.ev x; rw [hx] at g1
  generalize e1 : ac.eval x = xv at g1
  have hu := run_underlying T hi w
  rw [hd] at hu
  have key : ∃ b : Bool, (0 < m → b = false) ∧ (Op.equal t xv (.slice none c1 c2)).run P w = .ok b w := by
    cases g1 with
    | sl0 s a c => cases a with
      | none => exact ⟨true, fun h => by omega, equal_of fun d => by simp only [Op.equalIn, Sem.run_bind, hu, Result.andThen_ok]; rfl⟩
      | some a => exact ⟨false, fun h => rfl, equal_of fun d => by simp only [Op.equalIn, Sem.run_bind, hu, Result.andThen_ok]; rfl⟩
    | sl s m els b o c f hn hs hc hr h1' hcap => exact ⟨false, fun h => rfl, equal_of fun d => by simp only [Op.equalIn, Sem.run_bind, hu, Result.andThen_ok]; rfl⟩
  obtain ⟨b, hb, hrun⟩ := key
  refine ⟨.bool b, w, I, .v (.bool b), L, ?_, IMap.le_refl I, .v _, hiv, hk b hb⟩
  have hsl : ∃ a m c, xv = .slice a m c := by cases g1 <;> exact ⟨_, _, _, rfl⟩
  obtain ⟨a, m', c, rfl⟩ := hsl
  have hg : eqGuard .eql t x (.const (.slice none c1 c2)) (.slice a m' c) (.slice none c1 c2) = pure () := by unfold eqGuard; rfl
  have hbo := binOp_eql_of (P := P) (t := t) (x := .slice a m' c) (y := .slice none c1 c2) (by simp) (by simp) (by simp) (by simp) hrun
  have e2 : ac.eval (.const (.slice none c1 c2)) = .slice none c1 c2 := rfl
  simp only [GOp.o_mk, execOp, e1, e2, hg, Sem.run_bind, Sem.run_pure, Result.andThen_ok, hbo]
end rules
end Ab
