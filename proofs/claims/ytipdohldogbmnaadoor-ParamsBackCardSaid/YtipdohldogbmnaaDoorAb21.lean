/- Deferred calls; how a function ends that has some. They ask that a table of types is the program's. -/
import Derived.Test.YtipdohldogbmnaaDoorAb20
import Derived.RangeFuncLeaves
import Derived.RecoverIn
import Derived.RangeFuncRecord
set_option autoImplicit false
set_option linter.unusedVariables false
set_option linter.unusedSimpArgs false
namespace Ab
open Go Go.RowKit
section rules
variable {P : Program} {tt : Tab} {w0 : World} {n : Nat} {M : List Seg} {l : Env} {ds : List Deferred} {L L1 : List Seg} {Q : Post} {gs : List GOp}
variable {ty : TypeId}

/-- A call that is put off: of a function value all of whose captured values are known. -/
theorem SO.dfr {d : Option Tmp} {c : Operand} {f : FuncId} {cap : List AV} {vs : List Value} (hc : ev l c = .fn (.func f) [] cap) (hv : concL cap = some vs)
    (hk : SO P w0 none n gs (putE l d uV) ({ target := .fn (.func f) vs.toArray, args := #[] } :: ds) L Q) : SO P w0 none n (⟨d, .defer ⟨.value c, #[], #[]⟩, ty, none⟩ :: gs) l ds L Q := by
  refine ⟨fun ok w I F a hi he hd => ?_⟩
  have h1 := he.ev c
  rw [hc] at h1
  generalize e1 : a.eval c = cv at h1
  cases h1 with
  | fn f' first cap u v hn hm hu hw =>
    have hv' : v = vs.toArray := concL_ok hv ⟨hm, hw⟩
    have hu' : u = #[] := Array.eq_empty_of_size_eq_zero (by simpa using hn)
    subst hv'; subst hu'
    have hw2 : wantedG (⟨d, .defer ⟨.value c, #[], #[]⟩, ty, none⟩ : GOp) a.tmps = true := rfl
    simp only [wpG, hw2, if_true]
    refine ⟨fun _ _ => trivial, ?_⟩
    have hrun : (Oper.semAt (fence none).round a.eval (GOp.o ⟨d, .defer ⟨.value c, #[], #[]⟩, ty, none⟩)).run P w = .ok (.defer { target := .fn (.func f) vs.toArray, args := #[] }) w := by
      show (execOp a.eval (GOp.o ⟨d, .defer ⟨.value c, #[], #[]⟩, ty, none⟩)).run P w = _
      simp only [GOp.o_mk, execOp, resolve, e1, Deferred.ofValue, Sem.run_bind, Sem.run_pure, Result.andThen_ok]
      simp
    rw [hrun]
    have := hk.out (fun g hg => ok g (List.mem_cons_of_mem _ hg)) w I F ({ a with defers := { target := .fn (.func f) vs.toArray, args := #[] } :: a.defers }.put d undef) hi (EnvOk.put (a := { a with defers := { target := .fn (.func f) vs.toArray, args := #[] } :: a.defers }) he (ok ⟨d, .defer ⟨.value c, #[], #[]⟩, ty, none⟩ (by simp)) (.v _)) (by cases d <;> simp [Act.put, hd])
    exact this

/-- An object of one's own is another. -/
theorem Inv.putRaw {w : World} {I : IMap} {r : Nat} {ao : AObj} {o : Obj} {F : HL} (h : Inv w0 w I ((r, ao) :: F)) : Inv w0 (w.putObj r o) I ((r, .raw o) :: F) := by
  obtain ⟨_, o', h2, _⟩ := h.own (r, ao) (by simp)
  have hlt : r < w.heap.size := (Array.getElem?_eq_some_iff.1 h2).1
  exact Inv.set h (o := o) rfl rfl rfl rfl (by simp) (World.putObj_heap_same hlt) (fun n hn => World.putObj_heap_other hn)
/-- What a function does that is called as its caller ends: it gives some value, and may change how the caller ends. -/
structure Fd (P : Program) (w0 : World) (f : FuncId) (args : List AV) (u : FrameMode) (L0 : List Seg) (K : FrameMode → List Seg → Prop) : Prop where
  out : ∀ (w : World) (I : IMap) (F : HL) (vals : Array Value), Inv w0 w I (L0.flatten ++ F) → RelL I args vals →
    CallsDIn (fence none) 0 P f vals u w fun e u' w' => ∃ (v : Value) (J : IMap) (L' : List Seg), e = .returned v ∧ I.le J ∧ Inv w0 w' J (L'.flatten ++ F) ∧ K u' L'
/-- How a function ends, deferred calls and all. -/
def LvQ (P : Program) (w0 : World) (tt : Tab) (fn : Func) (R : AV → List Seg → Prop) (Pn : Value → List Seg → Prop) : List Deferred → FrameMode → Env → List Seg → Prop
  | [], .returning, l, L => ∃ as, Rs tt l L fn.results.toList as ∧ R (one as) L
  | [], .panicking [{ v, recovered := false, goexit := false }], l, L => Pn v L
  | { target := .collected r, args := _ } :: ds, u, l, L => u ≠ .run ∧ ∃ L', Rm L [(r, .raw (.deferred (some [])))] L' ∧ LvQ P w0 tt fn R Pn ds u l L'
  | { target := .fn (.func f) vs, args } :: ds, u, l, L => u ≠ .run ∧ HasF P f ∧ ∃ (L0 L1 : List Seg) (K : FrameMode → List Seg → Prop), Fd P w0 f ((args ++ vs).toList.map .v) u L0 K ∧ Sp L L0 L1 ∧
      ∀ u' L', K u' L' → LvQ P w0 tt fn R Pn ds (settle u') l (L' ++ L1)
  | _, _, _, _ => False
def retM (P : Program) (w0 : World) (tt : Tab) (fn : Func) (R : AV → List Seg → Prop) (Pn : Value → List Seg → Prop) : Post
  | .normal, l, ds, L | .ret, l, ds, L => LvQ P w0 tt fn R Pn ds .returning l L
  | .panic ch, l, ds, L => LvQ P w0 tt fn R Pn ds (.panicking ch) l L
  | _, _, _, _ => False

theorem relL_v {I : IMap} (vs : Array Value) : RelL I (vs.toList.map .v) vs := by
  refine ⟨by simp, fun j hj => ?_⟩
  simp at hj
  rw [List.getD_eq_getElem?_getD, Array.getD_eq_getD_getElem?]
  simp [hj]
  exact .v _
theorem LvQ_ok (T : TabOk P tt) {fn : Func} {R : AV → List Seg → Prop} {Pn : Value → List Seg → Prop} {tmps : Array Value} {I0 : IMap} {F : HL} : ∀ (ds : List Deferred) (u : FrameMode) (L : List Seg) (w : World) (I : IMap), I0.le I → Inv w0 w I (L.flatten ++ F) → EnvOk I n tmps l →
    LvQ P w0 tt fn R Pn ds u l L → LeavesInM (fence none) 0 P fn tmps (fun e w' => ∃ (J : IMap) (L' : List Seg), I0.le J ∧ Inv w0 w' J (L'.flatten ++ F) ∧
      ((∃ v r, e = .returned v ∧ Rel J r v ∧ R r L') ∨ (∃ v, e = .panicked [{ v, recovered := false }] ∧ Pn v L'))) ds u w := by
  intro ds
  induction ds with
  | nil =>
    intro u L w I hI hi he h
    cases u with
    | run => exact h.elim
    | returning =>
      obtain ⟨as, hrs, hR⟩ := h
      obtain ⟨v, h1, h2⟩ := results_run T hrs hi he
      exact ⟨v, h1, I, L, hI, hi, .inl ⟨v, _, rfl, h2, hR⟩⟩
    | panicking ch =>
      match ch, h with
      | [{ v, recovered := false, goexit := false }], h => exact ⟨I, L, hI, hi, .inr ⟨v, rfl, h⟩⟩
  | cons d ds ih =>
    intro u L w I hI hi he h
    obtain ⟨tg, args⟩ := d
    cases tg with
    | collected r =>
      obtain ⟨hu, L', hr, hk⟩ := h
      have hp : (L.flatten ++ F).Perm ([(r, AObj.raw (.deferred (some [])))] ++ (L'.flatten ++ F)) := by rw [← List.append_assoc]; exact List.Perm.append_right F hr.perm
      have hi' := hi.perm hp
      obtain ⟨h1, o, h2, h3⟩ := hi'.own (r, .raw (.deferred (some []))) (by simp)
      have h3' : o = .deferred (some []) := h3
      subst h3'
      have hrun : (Instr.takeDeferred r).run P w = .ok [] (w.putObj r (.deferred none)) := run_takeDeferred h2
      refine ⟨hu, .inl ⟨r, _, rfl, hrun, ?_⟩⟩
      have hset : Inv w0 (w.putObj r (.deferred none)) I ((r, AObj.raw (.deferred none)) :: (L'.flatten ++ F)) := hi'.putRaw
      exact ih u L' _ I hI (hset.sub (List.sublist_cons_self _ _)) he hk
    | fn fv vs =>
      cases fv with
      | func f =>
        obtain ⟨hu, hF, L0, L1, K, hfd, hsp, hk⟩ := h
        refine ⟨hu, .inr ⟨(fun h => by cases h), .func f, vs, f, args ++ vs, rfl, ?_, (fun g hg => trivial), ?_⟩⟩
        · exact hF _ w
        · have hp : (L.flatten ++ F).Perm (L0.flatten ++ (L1.flatten ++ F)) := by
            rw [← List.append_assoc]; exact List.Perm.append_right F hsp.perm
          refine CallsDIn.mono (hfd.out w I (L1.flatten ++ F) (args ++ vs) (hi.perm hp) (relL_v _)) fun e u' w' ⟨v, J, L', h1, h2, h3, h4⟩ => ?_
          subst h1
          exact ih (settle u') (L' ++ L1) w' J (IMap.le_trans hI h2) (by rw [List.flatten_append, List.append_assoc]; exact h3) (he.mono h2) (hk u' L' h4)
      | _ => exact h.elim
    | _ => exact h.elim
/-- A function's contract, deferred calls and all. -/
theorem Fn.mkM (T : TabOk P tt) {f : FuncId} {fn : Func} {c : Code} {args : List AV} {L0 : List Seg} {R : AV → List Seg → Prop} {Pn : Value → List Seg → Prop} (hf : P.funcs[f]? = some fn) (hb : fn.body = some c) (hn : args.length ≤ fn.ntmps)
    (h : SW P w0 none fn.ntmps c (argsE 0 args) [] L0 (retM P w0 tt fn R Pn)) : Ab.Fn P w0 f args L0 R Pn := by
  refine ⟨fun w I F vals hi hv => (callsIn_wide (n := 0)).1 (callsIn_of_wp_marks (F := fence none) hf hb trivial ?_)⟩
  refine wpIn_mono (h.out w I F { tmps := vals ++ Array.replicate (fn.ntmps - vals.size) undef, defers := [] } hi (envOk_args hv hn) rfl) fun e a' w' ⟨J, l', L', hJ, he, hi', hq⟩ => ?_
  cases e with
  | normal => exact LvQ_ok T a'.defers .returning L' w' J hJ hi' he hq
  | ret => exact LvQ_ok T a'.defers .returning L' w' J hJ hi' he hq
  | exit id => exact hq.elim
  | goto t => exact hq.elim
  | outgrown => exact hq.elim
  | panic ch => exact LvQ_ok T a'.defers (.panicking ch) L' w' J hJ hi' he hq
end rules
end Ab
