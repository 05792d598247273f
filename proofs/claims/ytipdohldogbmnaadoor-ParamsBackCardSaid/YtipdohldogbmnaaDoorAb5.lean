/- The rules for a row of operations: plain ones in one step, guards, arithmetic, memory of one's own. They ask that a table of types is the program's. -/
import Derived.Test.YtipdohldogbmnaaDoorAb4
import Derived.IntWalk
set_option autoImplicit false
set_option linter.unusedVariables false
set_option linter.unusedSimpArgs false
namespace Ab
open Go Go.RowKit

/-- A value, worked out to its first sign. -/
abbrev force {β : Type} (x : AV) (k : AV → β) : β := force0 x k
theorem force_eq {β : Type} (x : AV) (k : AV → β) : force x k = k x := force0_eq x k
/-- What a slot holds whose operation was passed over. -/
abbrev uV : AV := .v (.tuple #[])
/-- What a plain operation gives, guard and all. -/
def pure1 (tt : Tab) (l : Env) (g : Option (Option Tmp × Bool)) (o : Op) : Option AV :=
  match g with
  | none => evalP tt l o
  | some (some d, b) => (match lk l d with | .v (.bool c) => bif Bool.xor c b then some uV else evalP tt l o | .v (.tuple _) => some uV | _ => none)
  | some (none, _) => none
/-- As many plain operations as there are, at least one. -/
def runQ (tt : Tab) : List GOp → Env → List GOp × Env
  | [], l => ([], l)
  | ⟨d, o, t, g⟩ :: gs, l =>
    match g with
    | some g => (⟨d, o, t, some g⟩ :: gs, l)
    | none => (match evalP tt l o with
      | some v => force v fun v => (match d with | some d => runQ tt gs ((d, v) :: l) | none => runQ tt gs l)
      | none => (⟨d, o, t, none⟩ :: gs, l))
def runP (tt : Tab) : List GOp → Env → Option (List GOp × Env)
  | [], l => none
  | ⟨d, o, t, g⟩ :: gs, l =>
    match pure1 tt l g o with
    | some v => force v fun v => (match d with | some d => some (runQ tt gs ((d, v) :: l)) | none => some (runQ tt gs l))
    | none => none

section rules
variable {P : Program} {tt : Tab} {w0 : World} {ro : Option Nat} {n : Nat} {l : Env} {ds : List Deferred} {L : List Seg} {Q : Post}

theorem SO.p1 (T : TabOk P tt) {d : Option Tmp} {o : Op} {t : TypeId} {gs : List GOp} {av : AV} (h : evalP tt l o = some av) (hk : SO P w0 ro n gs (putE l d av) ds L Q) : SO P w0 ro n (⟨d, o, t, none⟩ :: gs) l ds L Q := by
  refine SO.value rfl ?_ (fun w I F a hi he => ?_) hk
  · intro c hc
    change o = _ at hc; rw [hc] at h; cases h
  · obtain ⟨_, x, h1, h2⟩ := evalP_ok (o := ⟨d, o, t, "", #[], none⟩) T he h w
    exact ⟨x, w, I, h1, IMap.le_refl I, h2, hi⟩
/-! ### Guards -/
theorem guard_val {I : IMap} {n : Nat} {tmps : Array Value} {l : Env} (he : EnvOk I n tmps l) {d : Nat} {b : Bool} (hb : lk l d = .v (.bool b)) : tmps[d]? = some (.bool b) := by
  have := he.2 d
  rw [hb] at this
  generalize hx : tmps.getD d undef = x at this
  cases this
  rw [Array.getD_eq_getD_getElem?] at hx
  cases h : tmps[d]? with
  | none => rw [h] at hx; cases hx
  | some y => rw [h] at hx; simp at hx; rw [hx]
theorem SO.gT {e : Option Tmp} {o : Op} {t : TypeId} {gs : List GOp} {d : Nat} {b : Bool} (hb : lk l d = .v (.bool b)) (hk : SO P w0 ro n (⟨e, o, t, none⟩ :: gs) l ds L Q) : SO P w0 ro n (⟨e, o, t, some (some d, b)⟩ :: gs) l ds L Q := by
  refine ⟨fun ok w I F a hi he hd => ?_⟩
  have h := hk.out (fun g hg => by
    rcases List.mem_cons.1 hg with rfl | hg
    · exact ok ⟨e, o, t, some (some d, b)⟩ (by simp)
    · exact ok g (List.mem_cons_of_mem _ hg)) w I F a hi he hd
  have h1 : wantedG ⟨e, o, t, some (some d, b)⟩ a.tmps = true := by simp [wantedG, guard_val he hb]
  have h2 : wantedG ⟨e, o, t, none⟩ a.tmps = true := rfl
  simp only [wpG, h1, h2, if_true] at h ⊢
  exact h
theorem SO.gF {e : Option Tmp} {o : Op} {t : TypeId} {gs : List GOp} {d : Nat} {b : Bool} (hb : lk l d = .v (.bool b)) (hk : SO P w0 ro n gs (putE l e uV) ds L Q) : SO P w0 ro n (⟨e, o, t, some (some d, !b)⟩ :: gs) l ds L Q := by
  refine ⟨fun ok w I F a hi he hd => ?_⟩
  have h := hk.out (fun g hg => ok g (List.mem_cons_of_mem _ hg)) w I F (a.put e undef) hi (he.put (ok ⟨e, o, t, some (some d, !b)⟩ (by simp)) (.v _)) (by cases e <;> exact hd)
  have h1 : wantedG ⟨e, o, t, some (some d, !b)⟩ a.tmps = false := by cases b <;> simp [wantedG, guard_val he hb]
  simp only [wpG, h1] at h ⊢
  exact h
theorem SO.gFt {e : Option Tmp} {o : Op} {t : TypeId} {gs : List GOp} {d : Nat} (hb : lk l d = .v (.bool false)) (hk : SO P w0 ro n gs (putE l e uV) ds L Q) : SO P w0 ro n (⟨e, o, t, some (some d, true)⟩ :: gs) l ds L Q := SO.gF hb hk
theorem SO.gFf {e : Option Tmp} {o : Op} {t : TypeId} {gs : List GOp} {d : Nat} (hb : lk l d = .v (.bool true)) (hk : SO P w0 ro n gs (putE l e uV) ds L Q) : SO P w0 ro n (⟨e, o, t, some (some d, false)⟩ :: gs) l ds L Q := SO.gF hb hk
theorem SO.gU {e : Option Tmp} {o : Op} {t : TypeId} {gs : List GOp} {d : Nat} {b : Bool} {u : Array Value} (hb : lk l d = .v (.tuple u)) (hk : SO P w0 ro n gs (putE l e uV) ds L Q) : SO P w0 ro n (⟨e, o, t, some (some d, b)⟩ :: gs) l ds L Q := by
  refine ⟨fun ok w I F a hi he hd => ?_⟩
  have h := hk.out (fun g hg => ok g (List.mem_cons_of_mem _ hg)) w I F (a.put e undef) hi (he.put (ok ⟨e, o, t, some (some d, b)⟩ (by simp)) (.v _)) (by cases e <;> exact hd)
  have h1 : wantedG ⟨e, o, t, some (some d, b)⟩ a.tmps = false := by
    have hv := he.2 d
    rw [hb] at hv
    generalize hx : a.tmps.getD d undef = x at hv
    cases hv
    rw [Array.getD_eq_getD_getElem?] at hx
    simp only [wantedG, Option.bind_some]
    cases h : a.tmps[d]? with
    | none => rfl
    | some y => rw [h] at hx; simp at hx; rw [hx]; rfl
  simp only [wpG, h1] at h ⊢
  exact h
theorem SO.p1g (T : TabOk P tt) {d : Option Tmp} {o : Op} {t : TypeId} {g : Option (Option Tmp × Bool)} {gs : List GOp} {av : AV} (h : pure1 tt l g o = some av) (hk : SO P w0 ro n gs (putE l d av) ds L Q) : SO P w0 ro n (⟨d, o, t, g⟩ :: gs) l ds L Q := by
  unfold pure1 at h
  split at h
  · exact SO.p1 T h hk
  · rename_i d' b
    split at h
    · rename_i c hc
      cases hx : Bool.xor c b with
      | true =>
        rw [hx] at h; cases h
        have : b = !c := by cases b <;> cases c <;> first | rfl | cases hx
        subst this
        exact SO.gF hc hk
      | false =>
        rw [hx] at h
        have : b = c := by cases b <;> cases c <;> first | rfl | cases hx
        subst this
        exact SO.gT hc (SO.p1 T h hk)
    · rename_i u hc
      cases h
      exact SO.gU hc hk
    · cases h
  · cases h
theorem SO.pq (T : TabOk P tt) : ∀ {gs gs' : List GOp} {l l' : Env} (h : runQ tt gs l = (gs', l')) (hk : SO P w0 ro n gs' l' ds L Q), SO P w0 ro n gs l ds L Q := by
  intro gs
  induction gs with
  | nil => intro gs' l l' h hk; cases h; exact hk
  | cons g gs ih =>
    intro gs' l l' h hk
    obtain ⟨d, o, t, g⟩ := g
    simp only [runQ] at h
    split at h
    · cases h; exact hk
    · split at h
      · rename_i v hv
        rw [force_eq] at h
        refine SO.p1 T hv ?_
        cases d with
        | some d => exact ih h hk
        | none => exact ih h hk
      · cases h; exact hk
theorem SO.pu (T : TabOk P tt) {gs gs' : List GOp} {l' : Env} (h : runP tt gs l = some (gs', l')) (hk : SO P w0 ro n gs' l' ds L Q) : SO P w0 ro n gs l ds L Q := by
  cases gs with
  | nil => cases h
  | cons g gs =>
    obtain ⟨d, o, t, g⟩ := g
    simp only [runP] at h
    split at h
    · rename_i v hv
      rw [force_eq] at h
      refine SO.p1g T hv ?_
      cases d with
      | some d => simp only [Option.some.injEq] at h; exact SO.pq T h hk
      | none => simp only [Option.some.injEq] at h; exact SO.pq T h hk
    · cases h

/-- What a slot holds is parted. -/
theorem SO.by {gs : List GOp} (d : Nat) {b : Bool} (hb : lk l d = .v (.bool b)) (ht : b = true → SO P w0 ro n gs ((d, .v (.bool true)) :: l) ds L Q) (hf : b = false → SO P w0 ro n gs ((d, .v (.bool false)) :: l) ds L Q) :
    SO P w0 ro n gs l ds L Q := by
  have up : ∀ c : Bool, b = c → SO P w0 ro n gs ((d, .v (.bool c)) :: l) ds L Q → SO P w0 ro n gs l ds L Q := by
    intro c hc h
    refine ⟨fun ok w I F a hi he hd => h.out ok w I F a hi ⟨he.1, fun k => ?_⟩ hd⟩
    simp only [lk]
    cases hk : Nat.beq d k with
    | false => exact he.2 k
    | true =>
      have := Nat.eq_of_beq_eq_true hk
      subst this
      have := he.2 d
      rw [hb, hc] at this
      exact this
  cases b with
  | true => exact up true rfl (ht rfl)
  | false => exact up false rfl (hf rfl)
theorem SO.byD {gs : List GOp} (d : Nat) {p : Prop} [Decidable p] (hb : lk l d = .v (.bool (decide p))) (ht : p → SO P w0 ro n gs ((d, .v (.bool true)) :: l) ds L Q) (hf : ¬ p → SO P w0 ro n gs ((d, .v (.bool false)) :: l) ds L Q) :
    SO P w0 ro n gs l ds L Q := SO.by d hb (fun h => ht (of_decide_eq_true h)) (fun h => hf (of_decide_eq_false h))
theorem SO.byN {gs : List GOp} (d : Nat) {p : Prop} [Decidable p] (hb : lk l d = .v (.bool (!decide p))) (ht : ¬ p → SO P w0 ro n gs ((d, .v (.bool true)) :: l) ds L Q) (hf : p → SO P w0 ro n gs ((d, .v (.bool false)) :: l) ds L Q) :
    SO P w0 ro n gs l ds L Q := SO.by d hb (fun h => ht (by simpa using h)) (fun h => hf (by simpa using h))
theorem SW.condN {c : Operand} {x y : Code} {p : Prop} [Decidable p] (hc : ev l c = .v (.bool (!decide p))) (ht : ¬ p → SW P w0 ro n x l ds L Q) (hf : p → SW P w0 ro n y l ds L Q) :
    SW P w0 ro n (.cond c x y) l ds L Q :=
  .cond hc (fun h => ht (by simpa using h)) (fun h => hf (by simpa using h))
/-- A slot's value under another name. -/
theorem SO.re {gs : List GOp} (d : Nat) {x y : AV} (hb : lk l d = x) (e : x = y) (hk : SO P w0 ro n gs ((d, y) :: l) ds L Q) : SO P w0 ro n gs l ds L Q := by
  refine ⟨fun ok w I F a hi he hd => hk.out ok w I F a hi ⟨he.1, fun k => ?_⟩ hd⟩
  simp only [lk]
  cases hk : Nat.beq d k with
  | false => exact he.2 k
  | true =>
    have := Nat.eq_of_beq_eq_true hk
    subst this
    have := he.2 d
    rw [hb, e] at this
    exact this

/-! ### Arithmetic -/
structure OpR (op : BinOp) (k : IntKind) (a : Int) (k' : IntKind) (b : Int) (c : Int) : Prop where
  out : ∀ (P : Program) (t : TypeId) (w : World), (binOp op t (.int k a) (.int k' b)).run P w = .ok (.int k c) w
theorem SO.bin {o : Oper} {gs : List GOp} {op : BinOp} {t yt : TypeId} {x y : Operand} {k k' : IntKind} {a b : Int} (c : Int) {d : Tmp} {ty : TypeId}
    (hx : ev l x = .v (.int k a)) (hy : ev l y = .v (.int k' b)) (h : OpR op k a k' b c) (hk : SO P w0 ro n gs ((d, (.v (.int k c))) :: l) ds L Q) :
    SO P w0 ro n (⟨some d, .binOp op t x y yt, ty, none⟩ :: gs) l ds L Q := by
  refine SO.value rfl (by intro c; simp [GOp.o_mk]) (fun w I F ac hi he => ?_) hk
  refine ⟨.int k c, w, I, ?_, IMap.le_refl I, .v _, hi⟩
  have h1 := he.ev x; rw [hx] at h1
  have h2 := he.ev y; rw [hy] at h2
  generalize e1 : ac.eval x = xv at h1
  generalize e2 : ac.eval y = yv at h2
  cases h1; cases h2
  have hg : eqGuard op t x y (.int k a) (.int k' b) = pure () := by unfold eqGuard; split <;> rfl
  simp only [GOp.o_mk, execOp, e1, e2, hg, Sem.run_bind, Sem.run_pure, Result.andThen_ok, h.out P t w]
theorem wrapI64 {c : Int} (h1 : -9223372036854775808 ≤ c) (h2 : c ≤ 9223372036854775807) : IntKind.i64.wrap c = c := IntWalk.i64_in _ (by omega)
theorem opAdd {a b : Int} (h1 : -9223372036854775808 ≤ a + b) (h2 : a + b ≤ 9223372036854775807) : OpR .add .i64 a .i64 b (a + b) := ⟨fun P t w => by
  simp only [binOp, Op.intArith, wrapI64 h1 h2]; rfl⟩
theorem opSub {a b : Int} (h1 : -9223372036854775808 ≤ a - b) (h2 : a - b ≤ 9223372036854775807) : OpR .sub .i64 a .i64 b (a - b) := ⟨fun P t w => by
  simp only [binOp, Op.intArith, wrapI64 h1 h2]; rfl⟩
theorem opMul {a b : Int} (h1 : -9223372036854775808 ≤ a * b) (h2 : a * b ≤ 9223372036854775807) : OpR .mul .i64 a .i64 b (a * b) := ⟨fun P t w => by
  simp only [binOp, Op.intArith, wrapI64 h1 h2]; rfl⟩
theorem opAny {op : BinOp} {k : IntKind} {a b c : Int} (h : ∀ (P : Program) (t : TypeId) (w : World), (binOp op t (.int k a) (.int k b)).run P w = .ok (.int k c) w) : OpR op k a k b c := ⟨h⟩
/-- A conversion of one whole number into another kind. -/
theorem SO.cvI (T : TabOk P tt) {gs : List GOp} {s t : TypeId} {x : Operand} {k k' : IntKind} {a : Int} (c : Int) {d : Tmp} {ty : TypeId} {i j : TI}
    (hx : ev l x = .v (.int k' a)) (hs : tlook tt s = some j) (ht : tlook tt t = some i) (hd : i.desc = .int k) (h : k.wrap a = c) (hk : SO P w0 ro n gs ((d, (.v (.int k c))) :: l) ds L Q) :
    SO P w0 ro n (⟨some d, .convert s t x, ty, none⟩ :: gs) l ds L Q := by
  refine SO.value rfl (by intro c; simp [GOp.o_mk]) (fun w I F ac hi he => ?_) hk
  refine ⟨.int k c, w, I, ?_, IMap.le_refl I, .v _, hi⟩
  have h1 := he.ev x; rw [hx] at h1
  generalize e1 : ac.eval x = xv at h1
  cases h1
  have hu1 := run_underlying T hs w
  have hu2 := run_underlying T ht w
  simp only [GOp.o_mk, execOp, e1, convert, Sem.run_bind, hu1, hu2, Result.andThen_ok, hd, Conv.intToInt, h, Sem.run_pure]

/-! ### Finding what is one's own -/
inductive Sg : List Seg → Seg → Prop
  | here {s : Seg} {L : List Seg} : Sg (s :: L) s
  | there {s x : Seg} {L : List Seg} (h : Sg L s) : Sg (x :: L) s
inductive Up : List Seg → Seg → Seg → List Seg → Prop
  | here {s s' : Seg} {L : List Seg} : Up (s :: L) s s' (s' :: L)
  | there {s s' x : Seg} {L L' : List Seg} (h : Up L s s' L') : Up (x :: L) s s' (x :: L')
theorem Up.perm {L L' : List Seg} {s s' : Seg} (h : Up L s s' L') (F : HL) : ∃ G : HL, (L.flatten ++ F).Perm (s ++ G) ∧ (L'.flatten ++ F).Perm (s' ++ G) := by
  induction h with
  | @here s s' L => exact ⟨L.flatten ++ F, by simp, by simp⟩
  | @there s s' x L L' h ih =>
    obtain ⟨G, h1, h2⟩ := ih
    refine ⟨x ++ G, ?_, ?_⟩
    · rw [List.flatten_cons, List.append_assoc]
      refine (List.Perm.append_left x h1).trans ?_
      rw [← List.append_assoc, ← List.append_assoc]
      exact List.Perm.append_right G List.perm_append_comm
    · rw [List.flatten_cons, List.append_assoc]
      refine (List.Perm.append_left x h2).trans ?_
      rw [← List.append_assoc, ← List.append_assoc]
      exact List.Perm.append_right G List.perm_append_comm
theorem Sg.mem {L : List Seg} {s : Seg} (h : Sg L s) {p : Nat × AObj} (hp : p ∈ s) : p ∈ L.flatten := by
  induction h with
  | here => simp [hp]
  | there h ih => simp only [List.flatten_cons, List.mem_append]; exact .inr (ih hp)

/-- Cells written into a row told cell by cell. -/
inductive St : List AV → Nat → List AV → List AV → Prop
  | nil {cs : List AV} : St cs 0 [] cs
  | here {c y : AV} {cs ys cs' : List AV} (h : St cs 0 ys cs') : St (c :: cs) 0 (y :: ys) (y :: cs')
  | there {c : AV} {cs ys cs' : List AV} {k : Nat} (h : St cs k ys cs') : St (c :: cs) (k + 1) ys (c :: cs')
theorem St.eq {cs ys cs' : List AV} {k : Nat} (h : St cs k ys cs') : cs' = spliceA cs k ys ∧ k + ys.length ≤ cs.length := by
  induction h with
  | nil => simp [spliceA]
  | here h ih =>
    obtain ⟨h1, h2⟩ := ih
    subst h1
    exact ⟨by simp [spliceA], by simp at h2 ⊢; omega⟩
  | @there c cs ys cs' k h ih =>
    obtain ⟨h1, h2⟩ := ih
    subst h1
    refine ⟨?_, by simp at h2 ⊢; omega⟩
    have : k + 1 + ys.length = (k + ys.length) + 1 := by omega
    simp [spliceA, this]
end rules
end Ab
