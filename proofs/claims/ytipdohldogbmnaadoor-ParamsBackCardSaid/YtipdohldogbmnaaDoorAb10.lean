/- The rules for parts of slices and strings, conversions, panics. They ask that a table of types is the program's. -/
import Derived.Test.YtipdohldogbmnaaDoorAb9
set_option autoImplicit false
set_option linter.unusedVariables false
set_option linter.unusedSimpArgs false
namespace Ab
open Go Go.RowKit

/-- A part of a slice that nobody changes. -/
theorem rel_part {I : IMap} {size m : Nat} {els : List (List AV)} {a : Option Addr} {c : Nat} (h : Rel I (.sl size m els) (.slice a m c)) {lo hi mx : Nat} (h1 : lo ≤ hi) (h2 : hi ≤ m) (h3 : hi ≤ mx) (h4 : mx ≤ c) :
    Rel I (.sl size (hi - lo) ((els.drop lo).take (hi - lo))) (.slice (if mx = lo then a else a.map (·.add (lo * size))) (hi - lo) (mx - lo)) := by
  cases h with
  | sl0 s a c =>
    have : hi - lo = 0 := by omega
    rw [this]; simp; exact .sl0 _ _ _
  | sl s m els b o c x hn hs hc hr h1' hcap =>
    by_cases he : hi = lo
    · subst he; simp; exact .sl0 _ _ _
    · rw [if_neg (by omega)]
      simp only [Option.map_some, add_at]
      refine .sl _ _ _ _ _ _ (fun i j => x (lo + i) j) (by simp; omega) (fun i hi' => ?_) (fun i j hi' hj => ?_) (fun i j hi' hj => ?_) (fun i j hi' hj => h1' _ _ (by omega) hj) (by omega)
      · have := hs (lo + i) (by omega)
        rw [List.getD_eq_getElem?_getD] at this ⊢
        rw [List.getElem?_take, if_pos hi', List.getElem?_drop]; exact this
      · have := hc (lo + i) j (by omega) hj
        rw [Nat.add_mul] at this
        rw [show o + lo * size + i * size + j = o + (lo * size + i * size) + j by omega]; exact this
      · have := hr (lo + i) j (by omega) hj
        rw [List.getD_eq_getElem?_getD (l := els)] at this
        rw [List.getD_eq_getElem?_getD (l := List.take _ _), List.getElem?_take, if_pos hi', List.getElem?_drop]; exact this

section rules
variable {P : Program} {tt : Tab} {w0 : World} {ro : Option Nat} {n : Nat} {l : Env} {ds : List Deferred} {L : List Seg} {Q : Post}
variable {d : Tmp} {ty : TypeId} {gs : List GOp}

def boundE (l : Env) : Option Operand → Option Int → Prop
  | none, none => True
  | some x, some i => ev l x = .v (.int .i64 i)
  | _, _ => False
theorem boundE_val {I : IMap} {a : Act} (he : EnvOk I n a.tmps l) {x : Operand} {i : Int} (h : boundE l (some x) (some i)) : a.eval x = .int .i64 i := by
  have := he.ev x
  simp only [boundE] at h
  rw [h] at this
  generalize a.eval x = y at this
  cases this; rfl

theorem slc_run (T : TabOk P tt) {I : IMap} {ac : Act} (he : EnvOk I n ac.tmps l) {t e : TypeId} {i j : TI} (hi : tlook tt t = some i) (hd : i.desc = .slice e) (hj : tlook tt e = some j) {w : World}
    {a : Option Addr} {m c : Nat} (hm : m ≤ c) {lo hi' : Option Operand} {x y : Option Int} (hx : boundE l lo x) (hy : boundE l hi' y) (h0 : 0 ≤ x.getD 0) (h1 : x.getD 0 ≤ y.getD m) (h2 : y.getD m ≤ m) :
    (Instr.sliceAt t (.slice a m c) (lo.map ac.eval) (hi'.map ac.eval) none).run P w = .ok (.slice (if c = (x.getD 0).toNat then a else a.map (·.add ((x.getD 0).toNat * j.size))) ((y.getD m).toNat - (x.getD 0).toNat) (c - (x.getD 0).toNat)) w := by
  have hu := run_underlying T hi w
  rw [hd] at hu
  cases lo with
  | none =>
    cases x with
    | some x => exact hx.elim
    | none =>
      cases hi' with
      | none =>
        cases y with
        | some y => exact hy.elim
        | none => simp [Instr.sliceAt, Instr.slice, hu, Instr.sliceBounds, run_sizeOf T hj]
      | some yo =>
        cases y with
        | none => exact hy.elim
        | some y =>
          simp only [Option.getD_some, Option.getD_none] at h1 h2
          have hv := boundE_val he hy
          have hle : 0 ≤ y ∧ y ≤ (c : Int) := by omega
          simp [Instr.sliceAt, Instr.slice, hu, Instr.sliceBounds, Instr.sliceBound, asIntOf, run_sizeOf T hj, hv, hle]
  | some xo =>
    cases x with
    | none => exact hx.elim
    | some x =>
      have hv := boundE_val he hx
      simp only [Option.getD_some] at h0 h1
      cases hi' with
      | none =>
        cases y with
        | some y => exact hy.elim
        | none =>
          simp only [Option.getD_none] at h1
          have hle : 0 ≤ x ∧ x ≤ (m : Int) := by omega
          simp [Instr.sliceAt, Instr.slice, hu, Instr.sliceBounds, Instr.sliceBound, asIntOf, run_sizeOf T hj, hv, hle]
      | some yo =>
        cases y with
        | none => exact hy.elim
        | some y =>
          simp only [Option.getD_some] at h1 h2
          have hv2 := boundE_val he hy
          have hle : 0 ≤ y ∧ y ≤ (c : Int) := by omega
          have hle2 : 0 ≤ x ∧ x ≤ ((y.toNat : Nat) : Int) := by omega
          have hle3 : x ≤ max y 0 := by omega
          simp [Instr.sliceAt, Instr.slice, hu, Instr.sliceBounds, Instr.sliceBound, asIntOf, run_sizeOf T hj, hv, hv2, hle, hle2.1, hle3]

/-- x[lo:hi] of a slice that nobody changes. -/
theorem SO.slc (T : TabOk P tt) {t e : TypeId} {i j : TI} {x : Operand} {size m : Nat} {els : List (List AV)} {lo hi' : Option Operand} {a b : Option Int} (hx : Sub (ev l x) (.sl size m els)) (hlo : boundE l lo a) (hhi : boundE l hi' b)
    (hi : tlook tt t = some i) (hd : i.desc = .slice e) (hj : tlook tt e = some j) (hz : j.size = size) (h0 : 0 ≤ a.getD 0) (h1 : a.getD 0 ≤ b.getD m) (h2 : b.getD m ≤ m)
    (hk : SO P w0 ro n gs ((d, .sl size ((b.getD m).toNat - (a.getD 0).toNat) ((els.drop (a.getD 0).toNat).take ((b.getD m).toNat - (a.getD 0).toNat))) :: l) ds L Q) :
    SO P w0 ro n (⟨some d, .slice t x lo hi' none, ty, none⟩ :: gs) l ds L Q := by
  subst hz
  refine SO.value rfl (by intro c; simp [GOp.o_mk]) (fun w I F ac hiv he => ?_) hk
  have g1 := hx _ _ (he.ev x)
  generalize e1 : ac.eval x = xv at g1
  have hsh : ∃ ad c, xv = .slice ad m c ∧ m ≤ c := by
    cases g1 with
    | sl0 s ad c => exact ⟨ad, c, rfl, Nat.zero_le _⟩
    | sl s m els b o c f hn hs hc hr h1' hcap => exact ⟨_, c, rfl, hcap⟩
  obtain ⟨ad, c, rfl, hm⟩ := hsh
  have hrun := slc_run T he hi hd hj (w := w) (a := ad) hm hlo hhi h0 h1 h2
  have hrel := rel_part g1 (lo := (a.getD 0).toNat) (hi := (b.getD m).toNat) (mx := c) (by omega) (by omega) (by omega) (Nat.le_refl _)
  exact ⟨_, w, I, by simp only [GOp.o_mk, execOp, e1, Option.map_none, Sem.run_bind, hrun, Result.andThen_ok, Sem.run_pure], IMap.le_refl I, hrel, hiv⟩

/-- A value under a name that says less. -/
theorem SO.sub (k : Nat) {x y : AV} (hx : lk l k = x) (h : Sub x y) (hk : SO P w0 ro n gs ((k, y) :: l) ds L Q) : SO P w0 ro n gs l ds L Q := by
  refine ⟨fun ok w I F a hi he hd => hk.out ok w I F a hi ⟨he.1, fun q => ?_⟩ hd⟩
  simp only [lk]
  cases hq : Nat.beq k q with
  | false => exact he.2 q
  | true =>
    have := Nat.eq_of_beq_eq_true hq
    subst this
    have := he.2 k
    rw [hx] at this
    exact h _ _ this

/-! ### Panics -/
def concL : List AV → Option (List Value)
  | [] => some []
  | .v x :: r => (match concL r with | some l => some (x :: l) | none => none)
  | _ => none
def conc : AV → Option Value
  | .v x => some x
  | .agg xs => (match concL xs with | some l => some (.agg l.toArray) | none => none)
  | _ => none
theorem concL_ok {I : IMap} : ∀ {xs : List AV} {l : List Value} {vs : Array Value}, concL xs = some l → RelL I xs vs → vs = l.toArray := by
  intro xs
  induction xs with
  | nil =>
    intro l vs h hr; cases h
    have := hr.1; simp at this; exact this
  | cons a xs ih =>
    intro l vs h hr
    cases a <;> simp only [concL, reduceCtorEq] at h
    rename_i x
    split at h
    · rename_i l' hl'
      cases h
      have h0 := hr.2 0 (by simp)
      have hv : vs.toList = x :: vs.toList.tail := by
        have hlen := hr.1
        cases hvl : vs.toList with
        | nil => rw [← Array.length_toList, hvl] at hlen; simp at hlen
        | cons y ys =>
          simp only [List.getD_cons_zero] at h0
          rw [Array.getD_eq_getD_getElem?, ← Array.getElem?_toList, hvl] at h0
          simp only [List.getElem?_cons_zero, Option.getD_some] at h0
          cases h0; rfl
      have hr2 : RelL I xs vs.toList.tail.toArray := by
        refine ⟨by have := hr.1; simp at this ⊢; omega, fun j hj => ?_⟩
        have := hr.2 (j + 1) (by simp; omega)
        rw [List.getD_cons_succ, Array.getD_eq_getD_getElem?, ← Array.getElem?_toList, hv, List.getElem?_cons_succ] at this
        rw [Array.getD_eq_getD_getElem?]
        simpa using this
      have := ih hl' hr2
      have h4 : vs.toList.tail = l' := by
        have := congrArg Array.toList this; simpa using this
      rw [← Array.toArray_toList (xs := vs), hv, h4]
    · cases h
theorem conc_ok {I : IMap} {a : AV} {v x : Value} (h : conc a = some v) (hr : Rel I a x) : x = v := by
  cases hr <;> simp only [conc, reduceCtorEq] at h
  · cases h; rfl
  · rename_i xs vs h1 h2
    split at h
    · rename_i l hl
      cases h
      rw [concL_ok hl ⟨h1, h2⟩]
    · cases h

theorem SO.panic {x : Operand} {t : TypeId} {y : AV} {v : Value} (hx : ev l x = .ifc t y) (hc : conc y = some v) (hq : Q (.panic [{ v := .iface t v, recovered := false }]) l ds L) {d : Option Tmp} :
    SO P w0 ro n (⟨d, .panic x, ty, none⟩ :: gs) l ds L Q := by
  refine ⟨fun ok w I F a hi he hd => ?_⟩
  have h1 := he.ev x
  rw [hx] at h1
  generalize e1 : a.eval x = xv at h1
  cases h1 with
  | ifc t y z hz =>
    have := conc_ok hc hz
    subst this
    have hw : wantedG (⟨d, .panic x, ty, none⟩ : GOp) a.tmps = true := rfl
    simp only [wpG, hw, if_true]
    refine ⟨fun _ _ => trivial, ?_⟩
    rw [Oper.semAt_eq _ _ _ (by intro c; simp [GOp.o_mk])]
    have hrun : (execOp a.eval (GOp.o ⟨d, .panic x, ty, none⟩)).run P w = .halt (.panic (.iface t z)) w := by
      simp only [GOp.o_mk, execOp, e1, Instr.panic, Sem.run_bind, run_goPanic, Result.andThen_halt]
    rw [hrun]
    exact ⟨I, l, L, IMap.le_refl I, he, hi, hd ▸ hq⟩
end rules
end Ab
