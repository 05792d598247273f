/- The rules for places in slices and arrays, for parts of slices, and for calls; contracts. They ask that a table of types is the program's. -/
import Derived.Test.YtipdohldogbmnaaDoorAb6
set_option autoImplicit false
set_option linter.unusedVariables false
set_option linter.unusedSimpArgs false
namespace Ab
open Go Go.RowKit

section rules
variable {P : Program} {tt : Tab} {w0 : World} {ro : Option Nat} {n : Nat} {l : Env} {ds : List Deferred} {L : List Seg} {Q : Post}
variable {d : Tmp} {ty : TypeId} {gs : List GOp}

theorem run_indexAt_slice (T : TabOk P tt) {t e : TypeId} {i j : TI} (hi : tlook tt t = some i) (hd : i.desc = .slice e) (hj : tlook tt e = some j) {w : World} {b o m c : Nat} {k : IntKind} {x : Int} (h0 : 0 ≤ x) (h1 : x < m) :
    (Instr.indexAt t (.slice (some ⟨b, o, none⟩) m c) (.int k x)).run P w = .ok (.pointer (some ⟨b, o + x.toNat * j.size, none⟩)) w := by
  have hu := run_underlying T hi w
  rw [hd] at hu
  simp only [Instr.indexAt, asIntOf, Sem.run_bind, Sem.run_pure, Result.andThen_ok, hu, h0, h1, and_self, if_true, run_sizeOf T hj, add_at]

/-- A place in a slice that nobody changes. -/
theorem SO.ixL (T : TabOk P tt) {t e : TypeId} {x y : Operand} {i j : TI} {size m : Nat} {els : List (List AV)} {k : IntKind} {a : Int} (hx : ev l x = .sl size m els) (hy : ev l y = .v (.int k a))
    (hi : tlook tt t = some i) (hd : i.desc = .slice e) (hj : tlook tt e = some j) (hz : j.size = size) (h0 : 0 ≤ a) (h1 : a < m)
    (hk : SO P w0 ro n gs ((d, (.ref (els.getD a.toNat []))) :: l) ds L Q) : SO P w0 ro n (⟨some d, .indexAddr t x y, ty, none⟩ :: gs) l ds L Q := by
  refine SO.value rfl (by intro c; simp [GOp.o_mk]) (fun w I F ac hiv he => ?_) hk
  have g1 := he.ev x; rw [hx] at g1
  generalize e1 : ac.eval x = xv at g1
  have g2 := he.ev y; rw [hy] at g2
  generalize e2 : ac.eval y = yv at g2
  cases g2
  cases g1 with
  | sl0 s ad c => omega
  | sl s m els b o c f hn hs hc hr h1' hcap =>
    refine ⟨.pointer (some ⟨b, o + a.toNat * j.size, none⟩), w, I, ?_, IMap.le_refl I, ?_, hiv⟩
    · simp only [GOp.o_mk, execOp, e1, e2, Sem.run_bind, run_indexAt_slice T hi hd hj h0 h1, Result.andThen_ok, Sem.run_pure]
    · have hlt : a.toNat < m := by omega
      have hl := hs a.toNat hlt
      rw [hz]
      exact .ref _ _ _ (f a.toNat) (fun q hq => hc _ _ hlt (by omega)) (fun q hq => hr _ _ hlt (by omega))
theorem SO.ixM (T : TabOk P tt) {α : Type} [Inhabited α] {xs : List α} {f : α → List AV} {t e : TypeId} {x y : Operand} {i j : TI} {size : Nat} {k : IntKind} {a : Int} (hx : ev l x = .sl size xs.length (xs.map f)) (hy : ev l y = .v (.int k a))
    (hi : tlook tt t = some i) (hd : i.desc = .slice e) (hj : tlook tt e = some j) (hz : j.size = size) (h0 : 0 ≤ a) (h1 : a < xs.length)
    (hk : SO P w0 ro n gs ((d, (.ref (f (xs.getD a.toNat default)))) :: l) ds L Q) : SO P w0 ro n (⟨some d, .indexAddr t x y, ty, none⟩ :: gs) l ds L Q := by
  refine SO.ixL T hx hy hi hd hj hz h0 h1 ?_
  have : (xs.map f).getD a.toNat [] = f (xs.getD a.toNat default) := by
    have hlt : a.toNat < xs.length := by omega
    simp [List.getD_eq_getElem?_getD, hlt]
  rw [this]; exact hk
/-- A place in a slice of one's own. -/
theorem SO.ixO (T : TabOk P tt) {t e : TypeId} {x y : Operand} {i j : TI} {b o m c : Nat} {k : IntKind} {a : Int} (hx : ev l x = .v (.slice (some ⟨b, o, none⟩) m c)) (hy : ev l y = .v (.int k a))
    (hi : tlook tt t = some i) (hd : i.desc = .slice e) (hj : tlook tt e = some j) (h0 : 0 ≤ a) (h1 : a < m)
    (hk : SO P w0 ro n gs ((d, (.v (.pointer (some ⟨b, o + a.toNat * j.size, none⟩)))) :: l) ds L Q) : SO P w0 ro n (⟨some d, .indexAddr t x y, ty, none⟩ :: gs) l ds L Q := by
  refine SO.value rfl (by intro c; simp [GOp.o_mk]) (fun w I F ac hiv he => ?_) hk
  have g1 := he.ev x; rw [hx] at g1
  generalize e1 : ac.eval x = xv at g1
  have g2 := he.ev y; rw [hy] at g2
  generalize e2 : ac.eval y = yv at g2
  cases g2; cases g1
  refine ⟨_, w, I, ?_, IMap.le_refl I, .v _, hiv⟩
  simp only [GOp.o_mk, execOp, e1, e2, Sem.run_bind, run_indexAt_slice T hi hd hj h0 h1, Result.andThen_ok, Sem.run_pure]
/-- A place in an array that a pointer leads to. -/
theorem SO.ixA (T : TabOk P tt) {t e : TypeId} {x y : Operand} {i j : TI} {b o m : Nat} {k : IntKind} {a : Int} (hx : ev l x = .v (.pointer (some ⟨b, o, none⟩))) (hy : ev l y = .v (.int k a))
    (hi : tlook tt t = some i) (hd : i.desc = .array m e) (hj : tlook tt e = some j) (h0 : 0 ≤ a) (h1 : a < m)
    (hk : SO P w0 ro n gs ((d, (.v (.pointer (some ⟨b, o + a.toNat * j.size, none⟩)))) :: l) ds L Q) : SO P w0 ro n (⟨some d, .indexAddr t x y, ty, none⟩ :: gs) l ds L Q := by
  refine SO.value rfl (by intro c; simp [GOp.o_mk]) (fun w I F ac hiv he => ?_) hk
  have g1 := he.ev x; rw [hx] at g1
  generalize e1 : ac.eval x = xv at g1
  have g2 := he.ev y; rw [hy] at g2
  generalize e2 : ac.eval y = yv at g2
  cases g2; cases g1
  refine ⟨_, w, I, ?_, IMap.le_refl I, .v _, hiv⟩
  have hu := run_underlying T hi w
  rw [hd] at hu
  simp only [GOp.o_mk, execOp, e1, e2, Instr.indexAt, asIntOf, Sem.run_bind, Sem.run_pure, Result.andThen_ok, hu, Instr.sureAddr, h0, h1, and_self, if_true, run_sizeOf T hj, add_at]

/-! ### Contracts -/
/-- What a call of a function does: it takes objects of one's own, and gives a value and objects back; or it panics. -/
structure Fn (P : Program) (w0 : World) (f : FuncId) (args : List AV) (L0 : List Seg) (R : AV → List Seg → Prop) (Pn : Value → List Seg → Prop := fun _ _ => False) : Prop where
  out : ∀ (w : World) (I : IMap) (F : HL) (vals : Array Value), Inv w0 w I (L0.flatten ++ F) → RelL I args vals →
    Calls P f vals w fun e w' => ∃ (J : IMap) (L' : List Seg), I.le J ∧ Inv w0 w' J (L'.flatten ++ F) ∧
      ((∃ v r, e = .returned v ∧ Rel J r v ∧ R r L') ∨ (∃ v, e = .panicked [{ v, recovered := false }] ∧ Pn v L'))
/-- A function that only gives a value. -/
abbrev Fp (P : Program) (w0 : World) (f : FuncId) (args : List AV) (r : AV) : Prop := Fn P w0 f args [] (fun r' L' => r' = r ∧ L' = [])

/-- A function that takes one object and gives it back. -/
abbrev F1 (P : Program) (w0 : World) (f : FuncId) (args : List AV) (s : Seg) (R : AV → Seg → Prop) : Prop := Fn P w0 f args [s] (fun r L' => ∃ s', L' = [s'] ∧ R r s')
theorem Fn.mono {f : FuncId} {args : List AV} {L0 : List Seg} {R R' : AV → List Seg → Prop} {Pn Pn' : Value → List Seg → Prop} (h : Fn P w0 f args L0 R Pn) (hr : ∀ r L, R r L → R' r L) (hp : ∀ v L, Pn v L → Pn' v L) :
    Fn P w0 f args L0 R' Pn' :=
  ⟨fun w I F vals hi hv => (h.out w I F vals hi hv).mono fun e w' ⟨J, L', h1, h2, h3⟩ => ⟨J, L', h1, h2, h3.imp (fun ⟨v, r, a, b, c⟩ => ⟨v, r, a, b, hr _ _ c⟩) (fun ⟨v, a, b⟩ => ⟨v, a, hp _ _ b⟩)⟩⟩

/-- Values under names that say less. -/
def Sub (a b : AV) : Prop := ∀ (I : IMap) (x : Value), Rel I a x → Rel I b x
theorem Sub.refl (a : AV) : Sub a a := fun _ _ h => h
theorem Sub.any (a : AV) : Sub a .any := fun _ x _ => .any x
theorem Sub.nil (s : Nat) (a : Option Addr) (c : Nat) : Sub (.v (.slice a 0 c)) (.sl s 0 []) := fun _ _ h => by cases h; exact .sl0 _ _ _
theorem Sub.z (s : Nat) : Sub .z (.sl s 0 []) := fun _ _ h => by cases h; exact .sl0 _ _ _
inductive Subs : List AV → List AV → Prop
  | nil : Subs [] []
  | cons {a b : AV} {as bs : List AV} (h : Sub a b) (hs : Subs as bs) : Subs (a :: as) (b :: bs)
theorem Subs.refl : (as : List AV) → Subs as as
  | [] => .nil
  | a :: as => .cons (Sub.refl a) (Subs.refl as)
theorem Subs.rel {I : IMap} {as bs : List AV} (h : Subs as bs) {vs : Array Value} (hv : RelL I as vs) : RelL I bs vs := by
  have hl : as.length = bs.length := by
    clear hv
    induction h with
    | nil => rfl
    | cons _ _ ih => simp [ih]
  refine ⟨by rw [hv.1, hl], fun j hj => ?_⟩
  have h2 := hv.2 j (by omega)
  clear hv hl
  generalize vs.getD j undef = x at h2
  induction h generalizing j with
  | nil => simp at hj
  | cons h hs ih =>
    cases j with
    | zero => exact h _ _ h2
    | succ j => exact ih j (by simpa using hj) h2

/-- What a call takes out of what there is. -/
inductive Rm : List Seg → Seg → List Seg → Prop
  | here {s : Seg} {L : List Seg} : Rm (s :: L) s L
  | there {s x : Seg} {L L' : List Seg} (h : Rm L s L') : Rm (x :: L) s (x :: L')
inductive Sp : List Seg → List Seg → List Seg → Prop
  | nil {L : List Seg} : Sp L [] L
  | cons {L L1 L2 r : List Seg} {s : Seg} (h : Rm L s L1) (k : Sp L1 r L2) : Sp L (s :: r) L2
theorem Rm.perm {L L' : List Seg} {s : Seg} (h : Rm L s L') : L.flatten.Perm (s ++ L'.flatten) := by
  induction h with
  | here => simp
  | @there s x L L' h ih =>
    simp only [List.flatten_cons]
    refine (List.Perm.append_left x ih).trans ?_
    rw [← List.append_assoc, ← List.append_assoc]
    exact List.Perm.append_right _ List.perm_append_comm
theorem Up.rm {L L' : List Seg} {s s' : Seg} (h : Up L s s' L') : ∃ L1, Rm L s L1 ∧ L'.flatten.Perm (s' ++ L1.flatten) := by
  induction h with
  | @here s s' L => exact ⟨L, .here, by simp⟩
  | @there s s' x L L' h ih =>
    obtain ⟨L1, h1, h2⟩ := ih
    refine ⟨x :: L1, .there h1, ?_⟩
    simp only [List.flatten_cons]
    refine (List.Perm.append_left x h2).trans ?_
    rw [← List.append_assoc, ← List.append_assoc]
    exact List.Perm.append_right _ List.perm_append_comm
/-- The order of what is one's own counts for nothing. -/
theorem SO.perm {L2 : List Seg} (h : SO P w0 ro n gs l ds L2 Q) (p : L.flatten.Perm L2.flatten) : SO P w0 ro n gs l ds L Q :=
  ⟨fun ok w I F a hi he hd => h.out ok w I F a (hi.perm (List.Perm.append_right F p)) he hd⟩
/-- What is one's own may be let go. -/
theorem SO.drop {L2 : List Seg} (h : SO P w0 ro n gs l ds L2 Q) (p : L2.flatten.Sublist L.flatten) : SO P w0 ro n gs l ds L Q :=
  ⟨fun ok w I F a hi he hd => h.out ok w I F a (hi.sub (List.Sublist.append_right p F)) he hd⟩
theorem Sp.perm {L L0 L1 : List Seg} (h : Sp L L0 L1) : L.flatten.Perm (L0.flatten ++ L1.flatten) := by
  induction h with
  | nil => simp
  | cons h k ih =>
    simp only [List.flatten_cons, List.append_assoc]
    exact h.perm.trans (List.Perm.append_left _ ih)

theorem callFunc_run {P : Program} {f : FuncId} {fn : Func} (hf : P.funcs[f]? = some fn) (hb : fn.body.isNone = false) (hn : (fn.name == "runtime.NumGoroutine") = false) (args : Array Value) (w : World) :
    (callFunc f args).run P w = .ok (.enter f args) w := by
  simp only [callFunc, Sem.run_bind, run_program, Result.andThen_ok, hf, hn, hb]
  rfl
/-- The functions of a program that may be called: they have a body. -/
def HasF (P : Program) (f : FuncId) : Prop := ∀ (args : Array Value) (w : World), (callFunc f args).run P w = .ok (.enter f args) w

theorem panicQ_up {w0 : World} {n : Nat} {I J : IMap} {F : HL} {Q : Post} {l : Env} {a : Act} {w : World} {L' : List Seg} {e : Exit} (hJ : I.le J) (he : EnvOk I n a.tmps l) (hi : Inv w0 w J (L'.flatten ++ F)) (hq : Q e l a.defers L') :
    postW w0 n I F Q e a w := ⟨J, l, L', hJ, he.mono hJ, hi, hq⟩

/-- A call: its value is known to be of a function with a contract. -/
theorem SO.callV {o : GOp} {f : FuncId} {avs : List AV} {L0 L1 : List Seg} {R : AV → List Seg → Prop} {Pn : Value → List Seg → Prop}
    (hfn : Fn P w0 f avs L0 R Pn) (hsp : Sp L L0 L1) (hgo : o.g = none) (hnd : ∀ c, o.op ≠ .defer c)
    (hrun : ∀ (w : World) (I : IMap) (a : Act), EnvOk I n a.tmps l → ∃ vals, (execOp a.eval o.o).run P w = .ok (.enter f vals) w ∧ RelL I avs vals)
    (hk : ∀ r L', R r L' → SO P w0 ro n gs (putE l o.dst r) ds (L' ++ L1) Q)
    (hpn : ∀ v L', Pn v L' → Q (.panic [{ v, recovered := false }]) l ds (L' ++ L1)) : SO P w0 ro n (o :: gs) l ds L Q := by
  refine ⟨fun ok w I F a hi he hd => ?_⟩
  obtain ⟨vals, h1, h2⟩ := hrun w I a he
  have hw : wantedG o a.tmps = true := by unfold wantedG; rw [hgo]
  simp only [wpG, hw, if_true]
  refine ⟨fun _ _ => trivial, ?_⟩
  rw [Oper.semAt_eq _ _ _ hnd, h1]
  refine ⟨(fun h => by cases h), ?_⟩
  have hp : (L.flatten ++ F).Perm (L0.flatten ++ (L1.flatten ++ F)) := by
    rw [← List.append_assoc]; exact List.Perm.append_right F hsp.perm
  have hc := (callsIn_wide (n := 0)).2 (hfn.out w I (L1.flatten ++ F) vals (hi.perm hp) h2)
  refine CallsIn.mono (F := fence ro) hc ?_
  intro e w' ⟨J, L', hJ, hi', hcase⟩
  have hi2 : Inv w0 w' J ((L' ++ L1).flatten ++ F) := by
    rw [List.flatten_append, List.append_assoc]; exact hi'
  rcases hcase with ⟨v, r, rfl, hv, hR⟩ | ⟨v, rfl, hP⟩
  · have h := (hk r L' hR).out (fun g' hg' => ok g' (List.mem_cons_of_mem _ hg')) w' J F (a.put o.o.dst v) hi2 ((he.mono hJ).put (ok o (by simp)) hv) (by show (a.put o.dst v).defers = ds; cases o.dst <;> exact hd)
    exact wpG_mono (fun e a w hq => hq.up hJ) gs _ _ h
  · exact panicQ_up hJ he hi2 (hd ▸ hpn v L' hP)

theorem relL_append {I : IMap} {xs ys : List AV} {us vs : Array Value} (h : RelL I xs us) (k : RelL I ys vs) : RelL I (xs ++ ys) (us ++ vs) := by
  refine ⟨by simp [h.1, k.1], fun j hj => ?_⟩
  rw [List.getD_eq_getElem?_getD, Array.getD_eq_getD_getElem?, List.getElem?_append, Array.getElem?_append, h.1]
  by_cases hlt : j < xs.length
  · rw [if_pos hlt, if_pos hlt]
    have := h.2 j hlt
    rw [List.getD_eq_getElem?_getD, Array.getD_eq_getD_getElem?] at this
    exact this
  · rw [if_neg hlt, if_neg hlt]
    have := k.2 (j - xs.length) (by simp at hj; omega)
    rw [List.getD_eq_getElem?_getD, Array.getD_eq_getD_getElem?] at this
    exact this
theorem run_call_func {I : IMap} {a : Act} {l : Env} (he : EnvOk I n a.tmps l) {f : FuncId} {args : Array Operand} {ts : Array TypeId} {c : Operand} {first cap : List AV} (hF : HasF P f) (hc : ev l c = .fn (.func f) first cap)
    {avs : List AV} (hs : Subs (first ++ args.toList.map (ev l) ++ cap) avs) (w : World) : ∃ vals, (execOp a.eval (GOp.o ⟨some d, .call ⟨.value c, args, ts⟩, ty, none⟩)).run P w = .ok (.enter f vals) w ∧ RelL I avs vals := by
  have h1 := he.ev c; rw [hc] at h1
  generalize e1 : a.eval c = cv at h1
  cases h1 with
  | fn f' first cap u v hn hm hu hw =>
    refine ⟨u ++ args.map a.eval ++ v, ?_, hs.rel ?_⟩
    · simp only [GOp.o_mk, execOp, resolve, e1, Deferred.ofValue, Sem.run_bind, Sem.run_pure, Result.andThen_ok, invoke]
      exact hF _ w
    · have h2 := map_rel he args
      exact relL_append (relL_append ⟨hn, hu⟩ h2) ⟨hm, hw⟩
/-- A call of a function by its name. -/
theorem SO.call {f : FuncId} {args : Array Operand} {ts : Array TypeId} {avs : List AV} {L0 L1 : List Seg} {R : AV → List Seg → Prop} {Pn : Value → List Seg → Prop} (hF : HasF P f)
    (hfn : Fn P w0 f avs L0 R Pn) (hs : Subs (args.toList.map (ev l)) avs) (hsp : Sp L L0 L1)
    (hk : ∀ r L', R r L' → SO P w0 ro n gs ((d, r) :: l) ds (L' ++ L1) Q)
    (hpn : ∀ v L', Pn v L' → Q (.panic [{ v, recovered := false }]) l ds (L' ++ L1)) : SO P w0 ro n (⟨some d, .call ⟨.value (.func f), args, ts⟩, ty, none⟩ :: gs) l ds L Q :=
  SO.callV hfn hsp rfl (by intro c; simp [GOp.o_mk]) (fun w I a he => run_call_func he hF (c := .func f) rfl (by simpa using hs) w) hk hpn
/-- .. that only gives a value. -/
theorem SO.callP {f : FuncId} {args : Array Operand} {ts : Array TypeId} {avs : List AV} {r : AV} (hF : HasF P f) (hfn : Fp P w0 f avs r) (hs : Subs (args.toList.map (ev l)) avs)
    (hk : SO P w0 ro n gs ((d, r) :: l) ds L Q) : SO P w0 ro n (⟨some d, .call ⟨.value (.func f), args, ts⟩, ty, none⟩ :: gs) l ds L Q :=
  SO.call hF hfn hs .nil (fun r' L' ⟨h1, h2⟩ => by subst h1; subst h2; exact hk) (fun _ _ h => h.elim)
/-- .. that takes one object and gives it back. -/
theorem SO.call1 {f : FuncId} {args : Array Operand} {ts : Array TypeId} {avs : List AV} {s : Seg} {R : AV → Seg → Prop} {L2 : Seg → List Seg} (hF : HasF P f)
    (hfn : F1 P w0 f avs s R) (hs : Subs (args.toList.map (ev l)) avs) (hu : ∀ s', Up L s s' (L2 s'))
    (hk : ∀ r s', R r s' → SO P w0 ro n gs ((d, r) :: l) ds (L2 s') Q) : SO P w0 ro n (⟨some d, .call ⟨.value (.func f), args, ts⟩, ty, none⟩ :: gs) l ds L Q := by
  obtain ⟨L1, h1, h2⟩ := (hu s).rm
  refine SO.call hF hfn hs (.cons h1 .nil) (fun r L' ⟨s', e, h⟩ => ?_) (fun _ _ h => h.elim)
  subst e
  refine (hk r s' h).perm ?_
  obtain ⟨L1', h1', h2'⟩ := (hu s').rm
  have p : L1.flatten.Perm L1'.flatten := (List.perm_append_left_iff s).1 (h1.perm.symm.trans h1'.perm)
  simp only [List.cons_append, List.nil_append, List.flatten_cons]
  exact (List.Perm.append_left s' p).trans h2'.symm
/-- A call of a function that a slot holds. -/
theorem SO.callC {f : FuncId} {c : Operand} {first cap : List AV} {args : Array Operand} {ts : Array TypeId} {avs : List AV} {L0 L1 : List Seg} {R : AV → List Seg → Prop} {Pn : Value → List Seg → Prop} (hF : HasF P f)
    (hc : ev l c = .fn (.func f) first cap) (hfn : Fn P w0 f avs L0 R Pn) (hs : Subs (first ++ args.toList.map (ev l) ++ cap) avs) (hsp : Sp L L0 L1)
    (hk : ∀ r L', R r L' → SO P w0 ro n gs ((d, r) :: l) ds (L' ++ L1) Q)
    (hpn : ∀ v L', Pn v L' → Q (.panic [{ v, recovered := false }]) l ds (L' ++ L1)) : SO P w0 ro n (⟨some d, .call ⟨.value c, args, ts⟩, ty, none⟩ :: gs) l ds L Q :=
  SO.callV hfn hsp rfl (by intro c; simp [GOp.o_mk]) (fun w I a he => run_call_func he hF hc hs w) hk hpn

/-! ### How a function begins and ends -/
def argsE : Nat → List AV → Env
  | _, [] => []
  | k, a :: as => (k, a) :: argsE (k + 1) as
theorem lk_argsE (as : List AV) : ∀ (k j : Nat), lk (argsE k as) (k + j) = as.getD j .any := by
  induction as with
  | nil => intro k j; rfl
  | cons a as ih =>
    intro k j
    simp only [argsE, lk]
    cases j with
    | zero => simp
    | succ j =>
      have : Nat.beq k (k + (j + 1)) = false := by
        cases h : Nat.beq k (k + (j + 1)) with
        | false => rfl
        | true => have := Nat.eq_of_beq_eq_true h; omega
      rw [this]
      have := ih (k + 1) j
      rw [show k + (j + 1) = k + 1 + j by omega]
      simpa using this
theorem envOk_args {I : IMap} {as : List AV} {vals : Array Value} (h : RelL I as vals) {n : Nat} (hn : as.length ≤ n) : EnvOk I n (vals ++ Array.replicate (n - vals.size) undef) (argsE 0 as) := by
  refine ⟨by have := h.1; simp; omega, fun k => ?_⟩
  have := lk_argsE as 0 k
  simp only [Nat.zero_add] at this
  rw [this, Array.getD_eq_getD_getElem?, Array.getElem?_append]
  by_cases hk : k < as.length
  · have h2 := h.2 k hk
    rw [Array.getD_eq_getD_getElem?] at h2
    rw [if_pos (by rw [h.1]; exact hk)]; exact h2
  · have : as.getD k .any = .any := by simp [List.getD_eq_getElem?_getD, List.getElem?_eq_none (by omega : as.length ≤ k)]
    rw [this]; exact .any _

/-- The results, out of the slots. -/
inductive Rs (tt : Tab) (l : Env) (L : List Seg) : List ResultVar → List AV → Prop
  | nil : Rs tt l L [] []
  | tmp {t : Tmp} {rs : List ResultVar} {as : List AV} (h : Rs tt l L rs as) : Rs tt l L (.tmp t :: rs) (lk l t :: as)
  | cell {a : Tmp} {t : TypeId} {b : Nat} {e : TypeId} {cs : List AV} {i : TI} {av : AV} {rs : List ResultVar} {as : List AV} (ha : lk l a = .v (.pointer (some ⟨b, 0, none⟩))) (hi : tlook tt t = some i)
      (hs : Sg L [(b, .row e cs)]) (hl : loadA i cs = some av) (h : Rs tt l L rs as) : Rs tt l L (.cell a t :: rs) (av :: as)
def one : List AV → AV
  | [a] => a
  | as => .tup as
theorem rs_run (T : TabOk P tt) {l : Env} {L : List Seg} {rs : List ResultVar} {as : List AV} (h : Rs tt l L rs as) {w : World} {I : IMap} {F : HL} {n : Nat} {tmps : Array Value} (hi : Inv w0 w I (L.flatten ++ F)) (he : EnvOk I n tmps l) :
    ∃ vs : List Value, (rs.mapM fun | .tmp t => pure (tmps.getD t undef) | .cell a t => do loadVar t (← asAddr (tmps.getD a undef)) : Sem (List Value)).run P w = .ok vs w ∧ RelL I as vs.toArray := by
  induction h with
  | nil => exact ⟨[], rfl, rfl, fun j hj => by simp at hj⟩
  | @tmp t rs as h ih =>
    obtain ⟨vs, h1, h2⟩ := ih
    refine ⟨tmps.getD t undef :: vs, ?_, ?_⟩
    · rw [List.mapM_cons]
      simp only [Sem.run_bind, Sem.run_pure, Result.andThen_ok, h1]
    · have := relL_append (relL_one (he.2 t)) h2
      simpa using this
  | @cell a t b e cs i av rs as ha hti hs hl h ih =>
    obtain ⟨vs, h1, h2⟩ := ih
    have hp := he.2 a
    rw [ha] at hp
    generalize e1 : tmps.getD a undef = x at hp
    cases hp
    obtain ⟨c, lo, hi', hb, hc, hf, hcell, _⟩ := hi.row (b := b) (e := e) (cs := cs) (by simp only [List.mem_append]; exact .inl (hs.mem (by simp)))
    obtain ⟨v, g1, g2⟩ := run_loadVar T hti (w := w) (I := I) (b := b) (o := 0) (xs := cs) (fun j => c.getD j undef) (fun j hj => by simpa using hcell j hj) hc.2 hl
    refine ⟨v :: vs, ?_, ?_⟩
    · rw [List.mapM_cons]
      have hA : (asAddr (tmps.getD a undef)).run P w = .ok ⟨b, 0, none⟩ w := by rw [e1]; rfl
      simp only [Sem.run_bind, Sem.run_pure, Result.andThen_ok, hA, g1, h1]
    · have := relL_append (relL_one g2) h2
      simpa using this
theorem results_run (T : TabOk P tt) {fn : Func} {l : Env} {L : List Seg} {as : List AV} (h : Rs tt l L fn.results.toList as) {w : World} {I : IMap} {F : HL} {n : Nat} {tmps : Array Value} (hi : Inv w0 w I (L.flatten ++ F)) (he : EnvOk I n tmps l) :
    ∃ v, (results fn tmps).run P w = .ok v w ∧ Rel I (one as) v := by
  obtain ⟨vs, h1, h2⟩ := rs_run T h hi he
  have h3 : (fn.results.mapM fun | .tmp t => pure (tmps.getD t undef) | .cell a t => do loadVar t (← asAddr (tmps.getD a undef)) : Sem (Array Value)).run P w = .ok vs.toArray w := by
    rw [Array.mapM_eq_mapM_toList, Sem.run_map, h1]; rfl
  unfold results
  simp only [Sem.run_bind]
  refine ⟨if h : vs.toArray.size = 1 then vs.toArray[0] else .tuple vs.toArray, ?_, ?_⟩
  · exact (congrArg (fun r : Result (Array Value) => r.andThen fun a w' => Sem.run P (pure (if h : a.size = 1 then a[0] else Value.tuple a)) w') h3).trans rfl
  · by_cases hs : vs.toArray.size = 1
    · rw [dif_pos hs]
      have hl : as.length = 1 := by rw [← h2.1]; exact hs
      match as, hl with
      | [a], _ =>
        have := h2.2 0 (by simp)
        rw [Array.getD_eq_getD_getElem?, Array.getElem?_eq_getElem (by omega)] at this
        exact this
    · rw [dif_neg hs]
      have hl : as.length ≠ 1 := by rw [← h2.1]; exact hs
      have : one as = .tup as := by
        match as with
        | [] => rfl
        | [a] => simp at hl
        | _ :: _ :: _ => rfl
      rw [this]
      exact .tup _ _ h2.1 h2.2

def retQ (tt : Tab) (fn : Func) (R : AV → List Seg → Prop) (Pn : Value → List Seg → Prop) : Post
  | .normal, l, ds, L | .ret, l, ds, L => ds = [] ∧ ∃ as, Rs tt l L fn.results.toList as ∧ R (one as) L
  | .panic [{ v, recovered := false, goexit := false }], l, ds, L => ds = [] ∧ Pn v L
  | _, _, _, _ => False

/-- A function's contract, out of its text. -/
theorem Fn.mk' (T : TabOk P tt) {f : FuncId} {fn : Func} {c : Code} {args : List AV} {L0 : List Seg} {R : AV → List Seg → Prop} {Pn : Value → List Seg → Prop} (hf : P.funcs[f]? = some fn) (hb : fn.body = some c) (hn : args.length ≤ fn.ntmps)
    (h : SW P w0 none fn.ntmps c (argsE 0 args) [] L0 (retQ tt fn R Pn)) : Fn P w0 f args L0 R Pn := by
  refine ⟨fun w I F vals hi hv => calls_of_wp hf hb ((wpIn_wide (n := 0)).1 ?_)⟩
  refine wpIn_mono (h.out w I F { tmps := vals ++ Array.replicate (fn.ntmps - vals.size) undef, defers := [] } hi (envOk_args hv hn) rfl) fun e a' w' ⟨J, l', L', hJ, he, hi', hq⟩ => ?_
  have ret : (a'.defers = [] ∧ ∃ as, Rs tt l' L' fn.results.toList as ∧ R (one as) L') → a'.defers = [] ∧ ∃ v, (results fn a'.tmps).run P w' = .ok v w' ∧ ∃ (J : IMap) (L' : List Seg), I.le J ∧ Inv w0 w' J (L'.flatten ++ F) ∧
      ((∃ v' r, Ending.returned v = .returned v' ∧ Rel J r v' ∧ R r L') ∨ (∃ v', Ending.returned v = .panicked [{ v := v', recovered := false }] ∧ Pn v' L')) := by
    intro ⟨hd, as, hrs, hR⟩
    obtain ⟨v, h1, h2⟩ := results_run T hrs hi' he
    exact ⟨hd, v, h1, J, L', hJ, hi', .inl ⟨v, _, rfl, h2, hR⟩⟩
  cases e with
  | normal => exact ret hq
  | ret => exact ret hq
  | exit id => exact hq.elim
  | goto t => exact hq.elim
  | outgrown => exact hq.elim
  | panic ch =>
    match ch, hq with
    | [{ v, recovered := false, goexit := false }], hq => exact ⟨hq.1, J, L', hJ, hi', .inr ⟨v, rfl, hq.2⟩⟩
end rules
end Ab
