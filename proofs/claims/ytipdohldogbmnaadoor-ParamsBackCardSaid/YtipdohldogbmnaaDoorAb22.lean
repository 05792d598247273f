/- A function that is called as its caller ends, and asks for what the caller panicked with. It asks that a table of types is the program's. -/
import Derived.Test.YtipdohldogbmnaaDoorAb21
set_option autoImplicit false
set_option linter.unusedVariables false
set_option linter.unusedSimpArgs false
namespace Ab
open Go Go.RowKit
/-- What recover gives, and how the caller ends then. -/
def recU : FrameMode → Value × FrameMode
  | .panicking ({ v, recovered := false, goexit := false } :: older) => (v, .panicking ({ v, recovered := true } :: older))
  | u => (.nilIface, u)
def retF (tt : Tab) (fn : Func) (K : FrameMode → List Seg → Prop) (u : FrameMode) : Post
  | .normal, l, ds, L | .ret, l, ds, L => ds = [] ∧ (∃ as, Rs tt l L fn.results.toList as) ∧ K u L
  | _, _, _, _ => False
section rules
variable {P : Program} {tt : Tab} {w0 : World}

theorem rec_pair {c₀ : Frame} {cs : List Frame} {u : FrameMode} (hu : c₀.mode = u) :
    (∃ v, recoverD (c₀ :: cs) = some (v, { c₀ with mode := (recU u).2 } :: cs) ∧ (recU u).1 = v) ∨ (recoverD (c₀ :: cs) = none ∧ (recU u).1 = .nilIface ∧ (recU u).2 = u) := by
  subst hu
  simp only [recoverD]
  split
  · rename_i v older h
    left
    rw [h]
    exact ⟨v, rfl, rfl⟩
  · rename_i h
    right
    refine ⟨rfl, ?_⟩
    unfold recU
    split
    · rename_i v older h2
      exact absurd h2 (h v older)
    · exact ⟨rfl, rfl⟩
theorem Fd.mkR (T : TabOk P tt) {f : FuncId} {fn : Func} {id : Nat} {ops : Array Oper} {rest : Code} {d e : Nat} {ts : Array TypeId} {t0 t1 : TypeId} {p0 p1 : String} {a0 a1 : Array Edge} {args : List AV} {u : FrameMode} {L0 : List Seg} {K : FrameMode → List Seg → Prop}
    (hf : P.funcs[f]? = some fn) (hb : fn.body = some (.seq (.region id ops false) rest)) (hs : ops.size = 2) (h0 : ops[0]? = some ⟨some d, .call ⟨.builtin .recover, #[], ts⟩, t0, p0, a0, none⟩) (h1 : ops[1]? = some ⟨some e, .assign (.tmp d), t1, p1, a1, none⟩)
    (hn : args.length ≤ fn.ntmps) (hd : d < fn.ntmps) (he : e < fn.ntmps)
    (h : SW P w0 none fn.ntmps rest ((e, .v (recU u).1) :: (d, .v (recU u).1) :: argsE 0 args) [] L0 (retF tt fn K (recU u).2)) : Fd P w0 f args u L0 K := by
  refine ⟨fun w I F vals hi hv => callsDIn_of_wpSIn hf hb trivial fun c₀ cs hu => wpSIn_seq (wpSIn_region ?_)⟩
  have hrange : List.range ops.size = [0, 1] := by rw [hs]; rfl
  rw [hrange]
  generalize ha : ({ tmps := vals ++ Array.replicate (fn.ntmps - vals.size) undef, defers := [] } : Act) = a
  have hea : EnvOk I fn.ntmps a.tmps (argsE 0 args) := by subst ha; exact envOk_args hv hn
  have hda : a.defers = [] := by subst ha; rfl
  have hrun0 : ∀ w, (execOp a.eval ⟨some d, .call ⟨.builtin .recover, #[], ts⟩, t0, p0, a0, none⟩).run P w = .ok .recover w := fun w => by
    simp [execOp, resolve, invoke, builtin]
  have fin : ∀ (cs' : List Frame), cs' = { c₀ with mode := (recU u).2 } :: cs → ∀ v, (recU u).1 = v → wpOpsSIn (fence none) 0 P ops
      (Exit.thenS (rest.wpSIn (fence none) 0 P (bodyPostS P fn c₀ cs fun e u' w' => ∃ (v : Value) (J : IMap) (L' : List Seg), e = .returned v ∧ I.le J ∧ Inv w0 w' J (L'.flatten ++ F) ∧ K u' L')) (bodyPostS P fn c₀ cs fun e u' w' => ∃ (v : Value) (J : IMap) (L' : List Seg), e = .returned v ∧ I.le J ∧ Inv w0 w' J (L'.flatten ++ F) ∧ K u' L'))
      [1] (a.put (some d) v) cs' w := by
    intro cs' hcs v hv
    simp only [wpOpsSIn, h1]
    refine ⟨fun _ _ => trivial, ?_⟩
    rw [if_pos (by simp [Region.wanted])]
    have hs1 : d < a.tmps.size := by rw [hea.1]; exact hd
    have hrun1 : (execOp (a.put (some d) v).eval ⟨some e, .assign (.tmp d), t1, p1, a1, none⟩).run P w = .ok (.value v) w := by
      simp [execOp, Act.put, Act.eval, Array.getD_eq_getD_getElem?, Array.getElem?_setIfInBounds, hs1]
    simp only [hrun1, Exit.thenS]
    subst hcs
    refine wpSIn_of_wpIn rfl ?_
    have he2 : EnvOk I fn.ntmps ((a.put (some d) v).put (some e) v).tmps ((e, .v (recU u).1) :: (d, .v (recU u).1) :: argsE 0 args) := by
      rw [hv]
      exact EnvOk.put (a := a.put (some d) v) (d := some e) (EnvOk.put (a := a) (d := some d) hea (fun k hk => by cases hk; exact hd) (.v v)) (fun k hk => by cases hk; exact he) (.v v)
    refine wpIn_mono (h.out w I F ((a.put (some d) v).put (some e) v) hi he2 hda) fun ex a' w' ⟨J, l', L', g1, g2, g3, g4⟩ => ?_
    have ret : (a'.defers = [] ∧ (∃ as, Rs tt l' L' fn.results.toList as) ∧ K (recU u).2 L') → a'.defers = [] ∧ ∃ u', { c₀ with mode := (recU u).2 } :: cs = { c₀ with mode := u' } :: cs ∧ ∃ v, (results fn a'.tmps).run P w' = .ok v w' ∧
        ∃ (v' : Value) (J : IMap) (L' : List Seg), Ending.returned v = .returned v' ∧ I.le J ∧ Inv w0 w' J (L'.flatten ++ F) ∧ K u' L' := by
      intro ⟨q1, ⟨as, q2⟩, q3⟩
      obtain ⟨v, r1, r2⟩ := results_run T q2 g3 g2
      exact ⟨q1, (recU u).2, rfl, v, r1, v, J, L', rfl, g1, g3, q3⟩
    cases ex with
    | normal => exact ret g4
    | ret => exact ret g4
    | exit id => exact g4.elim
    | goto t => exact g4.elim
    | outgrown => exact g4.elim
    | panic ch => exact g4.elim
  rw [wpOpsSIn]
  simp only [h0]
  refine ⟨fun _ _ => trivial, ?_⟩
  rw [if_pos (by simp [Region.wanted])]
  simp only [hrun0]
  rcases rec_pair (cs := cs) hu with ⟨v, g1, g2⟩ | ⟨g1, g2, g3⟩
  · simp only [g1]
    exact fin _ rfl v g2
  · simp only [g1]
    refine fin _ ?_ .nilIface g2
    rw [g3, ← hu]
end rules
end Ab
