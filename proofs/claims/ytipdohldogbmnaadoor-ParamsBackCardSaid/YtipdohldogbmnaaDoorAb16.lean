/- Operations that only read, told once for rows and for regions that draw their order. They ask that a table of types is the program's. -/
import Derived.Test.YtipdohldogbmnaaDoorAb15
set_option autoImplicit false
set_option linter.unusedVariables false
set_option linter.unusedSimpArgs false
namespace Ab
open Go Go.RowKit

structure Rdp (P : Program) (w0 : World) (n : Nat) (M : List Seg) (l : Env) (g : GOp) (v : AV) : Prop where
  out : ∀ (w : World) (I : IMap) (F : HL) (a : Act), Inv w0 w I (M.flatten ++ F) → EnvOk I n a.tmps l → ∃ x, (execOp a.eval g.o).run P w = .ok (.value x) w ∧ Rel I v x

section rules
variable {P : Program} {tt : Tab} {w0 : World} {ro : Option Nat} {n : Nat} {D : List DOp} {M : List Seg} {ds : List Deferred} {Q : Post} {rem : List Nat} {l : Env} {L Lx : List Seg} {gs : List GOp}
variable {d : Option Tmp} {ty : TypeId} {op : Op} {v : AV}

theorem SO.rdp (hnd : noSel op = true) (h : Rdp P w0 n L l ⟨d, op, ty, none⟩ v) (hk : SO P w0 ro n gs (putE l d v) ds L Q) : SO P w0 ro n (⟨d, op, ty, none⟩ :: gs) l ds L Q := by
  refine SO.value rfl (fun c hc => ?_) (fun w I F a hi he => ?_) hk
  · change op = _ at hc; subst hc; cases hnd
  · obtain ⟨x, h1, h2⟩ := h.out w I F a hi he
    exact ⟨x, w, I, h1, IMap.le_refl I, h2, hi⟩
theorem SO.rdS {d : Tmp} (hnd : noSel op = true) (h : Rdp P w0 n L l ⟨some d, op, ty, none⟩ v) (hk : SO P w0 ro n gs ((d, v) :: l) ds L Q) : SO P w0 ro n (⟨some d, op, ty, none⟩ :: gs) l ds L Q := SO.rdp hnd h hk
theorem Rd.of {g : GOp} (hg : g.g = none) (h : Rdp P w0 n M (only l (looks g)) g v) : Rd P w0 n M l g v := by
  intro w I F a hi he
  obtain ⟨x, h1, h2⟩ := h.out w I F a hi he.ok
  exact ⟨x, w, .inl ⟨by unfold wantedG; rw [hg], h1⟩, h2, fun _ h => h⟩
def guardOn (l : Env) (g : Option (Option Tmp × Bool)) : Bool :=
  match g with
  | none => true
  | some (some d, b) => (match lk l d with | .v (.bool c) => !(Bool.xor c b) | _ => false)
  | some (none, _) => false
theorem Rd.ofG {g : Option (Option Tmp × Bool)} (hg : guardOn l g = true) (h : Rdp P w0 n M (only l (looks ⟨d, op, ty, none⟩)) ⟨d, op, ty, none⟩ v) : Rd P w0 n M l ⟨d, op, ty, g⟩ v := by
  cases g with
  | none => exact Rd.of rfl h
  | some p =>
    obtain ⟨o, b⟩ := p
    cases o with
    | none => cases hg
    | some d' =>
      simp only [guardOn] at hg
      have hc : lk l d' = .v (.bool b) := by
        generalize lk l d' = v at hg
        split at hg
        · rename_i c
          cases b <;> cases c <;> first | rfl | cases hg
        · cases hg
      exact Rd.guard hc (Rd.of rfl h)
/-- Empty literals that may be taken. -/
def fbz (D : List DOp) (rem : List Nat) : List Nat → List Nat
  | [] => []
  | i :: r => (match atD D rem i with | some ⟨some _, .buildSlice _ 0 _, _, none⟩ => i :: fbz D rem r | _ => fbz D rem r)
/-- Kinds of operations. -/
def kindO : Op → Nat
  | .load _ _ => 1
  | .binOp _ _ _ _ _ => 2
  | .indexAddr _ _ _ => 3
  | .convert _ _ _ => 4
  | .index _ _ _ => 5
  | .slice _ _ _ _ _ => 6
  | .unOp _ _ _ => 7
  | .call ⟨.builtin _, _, _⟩ => 8
  | _ => 0
/-- The first of a kind that may be taken. -/
def fk (k : Nat) (D : List DOp) (rem : List Nat) (l : Env) : List Nat → Option (Nat × GOp)
  | [] => none
  | i :: r => (match atD D rem i with
    | some g => bif Nat.beq (kindO g.op) k && guardOn l g.g then some (i, g) else fk k D rem l r
    | none => fk k D rem l r)
theorem fk_spec {k : Nat} {i : Nat} {g : GOp} : ∀ {r : List Nat}, fk k D rem l r = some (i, g) → atD D rem i = some g ∧ guardOn l g.g = true := by
  intro r
  induction r with
  | nil => intro h; cases h
  | cons j r ih =>
    intro h
    simp only [fk] at h
    split at h
    · rename_i g' hg'
      cases hb : (Nat.beq (kindO g'.op) k && guardOn l g'.g) with
      | true =>
        rw [hb] at h
        cases h
        rw [Bool.and_eq_true] at hb
        exact ⟨hg', hb.2⟩
      | false => rw [hb] at h; exact ih h
    · exact ih h
theorem DW.rk (k : Nat) {i : Nat} {g : Option (Option Tmp × Bool)} {d : Tmp} {rem' : List Nat} (hf : fk k D rem l rem = some (i, ⟨some d, op, ty, g⟩)) (hr : seqL (rm1 i rem) some = some rem') {l' : Env} (hl : only l (looks ⟨some d, op, ty, none⟩) = l')
    (h : Rdp P w0 n M l' ⟨some d, op, ty, none⟩ v) (hk : DW P w0 ro n D M ds Q rem' ((d, v) :: l) Lx) : DW P w0 ro n D M ds Q rem l Lx := by
  subst hl
  obtain ⟨h1, h2⟩ := fk_spec hf
  rw [seqL_eq, Option.some.injEq] at hr
  exact DW.rd i h1 hr (Rd.ofG h2 h) hk

/-! ### What only reads -/
/-- An empty literal: its value is empty wherever it lies. -/
theorem Rd.bz (T : TabOk P tt) {t e : TypeId} {i j : TI} (hi : tlook tt t = some i) (hd : i.desc = .slice e) (hj : tlook tt e = some j) : Rd P w0 n M l ⟨d, .buildSlice t 0 #[], ty, none⟩ .z := by
  intro w I F a hinv he
  obtain ⟨o, h1, _⟩ := run_buildSlice (P := P) (l := []) T (I := I) (n := n) (a := { tmps := a.tmps, defers := a.defers }) ⟨he.1, fun k => .any _⟩ hi hd hj (m := 0) (ps := #[]) (es := []) rfl rfl (by omega) w
  refine ⟨.slice (some ⟨w.heap.size, 0, none⟩) 0 0, w.alloc (.cells o e), .inl ⟨rfl, ?_⟩, .z _, fun L h => ?_⟩
  · have h2 : (Instr.buildSlice t 0 #[]).run P w = .ok (.slice (some ⟨w.heap.size, 0, none⟩) 0 0) (w.alloc (.cells o e)) := by simpa using h1
    simp only [GOp.o_mk, execOp, List.map_toArray, Sem.run_bind]
    simp [h2]
  · exact (h.alloc (o := .cells o e) (ao := .raw (.cells o e)) rfl).sub (List.sublist_cons_self _ _)
theorem DW.bz (T : TabOk P tt) (q : Nat) {i : Nat} {t e : TypeId} {ti tj : TI} {d : Tmp} {rem' : List Nat} (hf : (fbz D rem rem)[q]? = some i) (hg : atD D rem i = some ⟨some d, .buildSlice t 0 #[], ty, none⟩) (hr : seqL (rm1 i rem) some = some rem')
    (hi : tlook tt t = some ti) (hd : ti.desc = .slice e) (hj : tlook tt e = some tj) (hk : DW P w0 ro n D M ds Q rem' ((d, .z) :: l) Lx) : DW P w0 ro n D M ds Q rem l Lx := by
  rw [seqL_eq, Option.some.injEq] at hr
  exact DW.rd i hg hr (Rd.bz T hi hd hj) hk
theorem Rdp.bin {bop : BinOp} {t yt : TypeId} {x y : Operand} {k k' : IntKind} {a b : Int} (c : Int) (hx : ev l x = .v (.int k a)) (hy : ev l y = .v (.int k' b)) (h : OpR bop k a k' b c) :
    Rdp P w0 n M l ⟨d, .binOp bop t x y yt, ty, none⟩ (.v (.int k c)) := by
  refine ⟨fun w I F ac hi he => ?_⟩
  refine ⟨.int k c, ?_, .v _⟩
  have h1 := he.ev x; rw [hx] at h1
  have h2 := he.ev y; rw [hy] at h2
  generalize e1 : ac.eval x = xv at h1
  generalize e2 : ac.eval y = yv at h2
  cases h1; cases h2
  have hg : eqGuard bop t x y (.int k a) (.int k' b) = pure () := by unfold eqGuard; split <;> rfl
  simp only [GOp.o_mk, execOp, e1, e2, hg, Sem.run_bind, Sem.run_pure, Result.andThen_ok, h.out P t w]
theorem Rdp.cvI (T : TabOk P tt) {s t : TypeId} {x : Operand} {k k' : IntKind} {a : Int} (c : Int) {i j : TI}
    (hx : ev l x = .v (.int k' a)) (hs : tlook tt s = some j) (ht : tlook tt t = some i) (hd : i.desc = .int k) (h : k.wrap a = c) :
    Rdp P w0 n M l ⟨d, .convert s t x, ty, none⟩ (.v (.int k c)) := by
  refine ⟨fun w I F ac hi he => ?_⟩
  refine ⟨.int k c, ?_, .v _⟩
  have h1 := he.ev x; rw [hx] at h1
  generalize e1 : ac.eval x = xv at h1
  cases h1
  have hu1 := run_underlying T hs w
  have hu2 := run_underlying T ht w
  simp only [GOp.o_mk, execOp, e1, convert, Sem.run_bind, hu1, hu2, Result.andThen_ok, hd, Conv.intToInt, h, Sem.run_pure]
theorem Rdp.ixL (T : TabOk P tt) {t e : TypeId} {x y : Operand} {i j : TI} {size m : Nat} {els : List (List AV)} {k : IntKind} {a : Int} (hx : ev l x = .sl size m els) (hy : ev l y = .v (.int k a))
    (hi : tlook tt t = some i) (hd : i.desc = .slice e) (hj : tlook tt e = some j) (hz : j.size = size) (h0 : 0 ≤ a) (h1 : a < m) : Rdp P w0 n M l ⟨d, .indexAddr t x y, ty, none⟩ (.ref (els.getD a.toNat [])) := by
  refine ⟨fun w I F ac hiv he => ?_⟩
  have g1 := he.ev x; rw [hx] at g1
  generalize e1 : ac.eval x = xv at g1
  have g2 := he.ev y; rw [hy] at g2
  generalize e2 : ac.eval y = yv at g2
  cases g2
  cases g1 with
  | sl0 s ad c => omega
  | sl s m els b o c f hn hs hc hr h1' hcap =>
    refine ⟨.pointer (some ⟨b, o + a.toNat * j.size, none⟩), ?_, ?_⟩
    · simp only [GOp.o_mk, execOp, e1, e2, Sem.run_bind, run_indexAt_slice T hi hd hj h0 h1, Result.andThen_ok, Sem.run_pure]
    · have hlt : a.toNat < m := by omega
      have hl := hs a.toNat hlt
      rw [hz]
      exact .ref _ _ _ (f a.toNat) (fun q hq => hc _ _ hlt (by omega)) (fun q hq => hr _ _ hlt (by omega))
theorem Rdp.ixM (T : TabOk P tt) {α : Type} [Inhabited α] {xs : List α} {f : α → List AV} {t e : TypeId} {x y : Operand} {i j : TI} {size : Nat} {k : IntKind} {a : Int} (hx : ev l x = .sl size xs.length (xs.map f)) (hy : ev l y = .v (.int k a))
    (hi : tlook tt t = some i) (hd : i.desc = .slice e) (hj : tlook tt e = some j) (hz : j.size = size) (h0 : 0 ≤ a) (h1 : a < xs.length) : Rdp P w0 n M l ⟨d, .indexAddr t x y, ty, none⟩ (.ref (f (xs.getD a.toNat default))) := by
  have := Rdp.ixL (P := P) (w0 := w0) (n := n) (M := M) (d := d) (ty := ty) T hx hy hi hd hj hz h0 h1
  have e : (xs.map f).getD a.toNat [] = f (xs.getD a.toNat default) := by
    have hlt : a.toNat < xs.length := by omega
    simp [List.getD_eq_getElem?_getD, hlt]
  rw [e] at this; exact this
theorem Rdp.ixO (T : TabOk P tt) {t e : TypeId} {x y : Operand} {i j : TI} {b o m c : Nat} {k : IntKind} {a : Int} (hx : ev l x = .v (.slice (some ⟨b, o, none⟩) m c)) (hy : ev l y = .v (.int k a))
    (hi : tlook tt t = some i) (hd : i.desc = .slice e) (hj : tlook tt e = some j) (h0 : 0 ≤ a) (h1 : a < m) : Rdp P w0 n M l ⟨d, .indexAddr t x y, ty, none⟩ (.v (.pointer (some ⟨b, o + a.toNat * j.size, none⟩))) := by
  refine ⟨fun w I F ac hiv he => ?_⟩
  have g1 := he.ev x; rw [hx] at g1
  generalize e1 : ac.eval x = xv at g1
  have g2 := he.ev y; rw [hy] at g2
  generalize e2 : ac.eval y = yv at g2
  cases g2; cases g1
  refine ⟨_, ?_, .v _⟩
  simp only [GOp.o_mk, execOp, e1, e2, Sem.run_bind, run_indexAt_slice T hi hd hj h0 h1, Result.andThen_ok, Sem.run_pure]
theorem Rdp.ixA (T : TabOk P tt) {t e : TypeId} {x y : Operand} {i j : TI} {b o m : Nat} {k : IntKind} {a : Int} (hx : ev l x = .v (.pointer (some ⟨b, o, none⟩))) (hy : ev l y = .v (.int k a))
    (hi : tlook tt t = some i) (hd : i.desc = .array m e) (hj : tlook tt e = some j) (h0 : 0 ≤ a) (h1 : a < m) : Rdp P w0 n M l ⟨d, .indexAddr t x y, ty, none⟩ (.v (.pointer (some ⟨b, o + a.toNat * j.size, none⟩))) := by
  refine ⟨fun w I F ac hiv he => ?_⟩
  have g1 := he.ev x; rw [hx] at g1
  generalize e1 : ac.eval x = xv at g1
  have g2 := he.ev y; rw [hy] at g2
  generalize e2 : ac.eval y = yv at g2
  cases g2; cases g1
  refine ⟨_, ?_, .v _⟩
  have hu := run_underlying T hi w
  rw [hd] at hu
  simp only [GOp.o_mk, execOp, e1, e2, Instr.indexAt, asIntOf, Sem.run_bind, Sem.run_pure, Result.andThen_ok, hu, Instr.sureAddr, h0, h1, and_self, if_true, run_sizeOf T hj, add_at]
theorem Rdp.ld (T : TabOk P tt) {t : TypeId} {x : Operand} {i : TI} {b o : Nat} {e : TypeId} {cs : List AV} {av : AV} (hx : ev l x = .v (.pointer (some ⟨b, o, none⟩))) (hi : tlook tt t = some i)
    (hs : Sg M [(b, .row e cs)]) (h : loadA i (cs.drop o) = some av) : Rdp P w0 n M l ⟨d, .load t x, ty, none⟩ av := by
  refine ⟨fun w I F a hiv he => ?_⟩
  have h1 := he.ev x; rw [hx] at h1
  generalize e1 : a.eval x = xv at h1
  cases h1
  obtain ⟨c, lo, hi', hb, hc, hf, hcell, _⟩ := hiv.row (b := b) (e := e) (cs := cs) (by simp only [List.mem_append]; exact .inl (hs.mem (by simp)))
  obtain ⟨v, h2, h3⟩ := run_loadVar T hi (w := w) (I := I) (b := b) (o := o) (xs := cs.drop o) (fun j => c.getD (o + j) undef) (fun j hj => hcell (o + j) (by simp at hj; omega))
    (fun j hj => by
      have := hc.2 (o + j) (by simp at hj; omega)
      rw [List.getD_eq_getElem?_getD] at this ⊢
      rw [List.getElem?_drop]; exact this) h
  exact ⟨v, by simp [GOp.o_mk, execOp, e1, Instr.loadAt, Instr.sureAddr, h2], h3⟩
theorem Rdp.ldR (T : TabOk P tt) {t : TypeId} {x : Operand} {i : TI} {xs : List AV} {av : AV} (hx : ev l x = .ref xs) (hi : tlook tt t = some i) (h : loadA i xs = some av) : Rdp P w0 n M l ⟨d, .load t x, ty, none⟩ av := by
  refine ⟨fun w I F a hiv he => ?_⟩
  have h1 := he.ev x; rw [hx] at h1
  generalize e1 : a.eval x = xv at h1
  cases h1 with
  | ref xs b o y hc hr =>
    obtain ⟨v, h2, h3⟩ := run_loadVar T hi (w := w) (I := I) y (fun j hj => hiv.cellI (hc j hj)) hr h
    exact ⟨v, by simp [GOp.o_mk, execOp, e1, Instr.loadAt, Instr.sureAddr, h2], h3⟩

/-! ### Slots of a region that draws its order, under other names, and parted -/
theorem lk_re {l : Env} {d : Nat} {y : AV} (h : lk l d = y) (q : Nat) : lk ((d, y) :: l) q = lk l q := by
  simp only [lk]
  cases hb : Nat.beq d q with
  | true => have := Nat.eq_of_beq_eq_true hb; subst this; exact h.symm
  | false => rfl
theorem DW.re (d : Nat) {x y : AV} (hb : lk l d = x) (e : x = y) (h : DW P w0 ro n D M ds Q rem ((d, y) :: l) Lx) : DW P w0 ro n D M ds Q rem l Lx := h.ext (lk_re (hb.trans e))
theorem DW.gS (k : Nat) {i : Nat} {d : Nat} {b c : Bool} {e : Option Tmp} (hr : (fgs D rem rem)[k]? = some i) (hg : atD D rem i = some ⟨e, op, ty, some (some d, c)⟩) (hb : lk l d = .v (.bool b))
    (ht : b = true → DW P w0 ro n D M ds Q rem ((d, .v (.bool true)) :: l) Lx) (hf : b = false → DW P w0 ro n D M ds Q rem ((d, .v (.bool false)) :: l) Lx) : DW P w0 ro n D M ds Q rem l Lx := by
  cases b with
  | true => exact (ht rfl).ext (lk_re hb)
  | false => exact (hf rfl).ext (lk_re hb)
theorem DW.gSD (k : Nat) {i : Nat} {d : Nat} {p : Prop} [Decidable p] {c : Bool} {e : Option Tmp} (hr : (fgs D rem rem)[k]? = some i) (hg : atD D rem i = some ⟨e, op, ty, some (some d, c)⟩) (hb : lk l d = .v (.bool (decide p)))
    (ht : p → DW P w0 ro n D M ds Q rem ((d, .v (.bool true)) :: l) Lx) (hf : ¬ p → DW P w0 ro n D M ds Q rem ((d, .v (.bool false)) :: l) Lx) : DW P w0 ro n D M ds Q rem l Lx :=
  DW.gS k hr hg hb (fun h => ht (of_decide_eq_true h)) (fun h => hf (of_decide_eq_false h))
theorem DW.gSN (k : Nat) {i : Nat} {d : Nat} {p : Prop} [Decidable p] {c : Bool} {e : Option Tmp} (hr : (fgs D rem rem)[k]? = some i) (hg : atD D rem i = some ⟨e, op, ty, some (some d, c)⟩) (hb : lk l d = .v (.bool (!decide p)))
    (ht : ¬ p → DW P w0 ro n D M ds Q rem ((d, .v (.bool true)) :: l) Lx) (hf : p → DW P w0 ro n D M ds Q rem ((d, .v (.bool false)) :: l) Lx) : DW P w0 ro n D M ds Q rem l Lx :=
  DW.gS k hr hg hb (fun h => ht (by simpa using h)) (fun h => hf (by simpa using h))
end rules
end Ab
