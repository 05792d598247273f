/- Calls that may panic; rows of one's own whose cells are told otherwise. They ask that a table of types is the program's. -/
import Derived.Test.YtipdohldogbmnaaDoorAb19
set_option autoImplicit false
set_option linter.unusedVariables false
set_option linter.unusedSimpArgs false
namespace Ab
open Go Go.RowKit
section rules
variable {P : Program} {tt : Tab} {w0 : World} {ro : Option Nat} {n : Nat} {M : List Seg} {l : Env} {ds : List Deferred} {L L1 : List Seg} {Q : Post} {gs : List GOp}
variable {ty : TypeId}

/-- What a function does that gives up if something is not so. -/
def BndR (b : Bool) (r0 : AV) (r : AV) (L' : List Seg) : Prop := b = true ∧ r = r0 ∧ L' = []
def BndP (b : Bool) (v0 : Value) (v : Value) (L' : List Seg) : Prop := b = false ∧ v = v0 ∧ L' = []
abbrev Fb (P : Program) (w0 : World) (f : FuncId) (args : List AV) (b : Bool) (r0 : AV) (v0 : Value) : Prop := Ab.Fn P w0 f args [] (BndR b r0) (BndP b v0)
theorem SO.callB {d : Tmp} {f : FuncId} {args : Array Operand} {ts : Array TypeId} {avs : List AV} {b : Bool} {r0 : AV} {v0 : Value} (hF : HasF P f) (hfn : Fb P w0 f avs b r0 v0) (hs : Subs (args.toList.map (ev l)) avs)
    (ht : b = true → SO P w0 ro n gs ((d, r0) :: l) ds L Q) (hf : b = false → Q (.panic [{ v := v0, recovered := false }]) l ds L) : SO P w0 ro n (⟨some d, .call ⟨.value (.func f), args, ts⟩, ty, none⟩ :: gs) l ds L Q :=
  SO.call hF hfn hs .nil (fun r L' ⟨h1, h2, h3⟩ => by subst h2; subst h3; exact ht h1) (fun v L' ⟨h1, h2, h3⟩ => by subst h2; subst h3; exact hf h1)
theorem SO.callBD {d : Tmp} {f : FuncId} {args : Array Operand} {ts : Array TypeId} {avs : List AV} {p : Prop} [Decidable p] {r0 : AV} {v0 : Value} (hF : HasF P f) (hfn : Fb P w0 f avs (decide p) r0 v0) (hs : Subs (args.toList.map (ev l)) avs)
    (ht : p → SO P w0 ro n gs ((d, r0) :: l) ds L Q) (hf : ¬ p → Q (.panic [{ v := v0, recovered := false }]) l ds L) : SO P w0 ro n (⟨some d, .call ⟨.value (.func f), args, ts⟩, ty, none⟩ :: gs) l ds L Q :=
  SO.callB hF hfn hs (fun h => ht (of_decide_eq_true h)) (fun h => hf (of_decide_eq_false h))

/-- A row of one's own told by less. -/
theorem Inv.rowW {w : World} {I : IMap} {b : Nat} {e : TypeId} {cs cs' : List AV} {F : HL} (h : Inv w0 w I ((b, .row e cs) :: F)) (hs : Subs cs cs') : Inv w0 w I ((b, .row e cs') :: F) := by
  refine ⟨h.below, h.base, h.imm, fun p hp => ?_, by simpa using h.nd⟩
  rcases List.mem_cons.1 hp with rfl | hp
  · obtain ⟨h1, o, h2, c, lo, hi, h3, h4, h5, h6⟩ := h.own (b, .row e cs) (by simp)
    have hl := hs.rel h4
    have hlen : cs'.length = cs.length := by rw [← hl.1, h4.1]
    exact ⟨h1, o, h2, c, lo, hi, h3, hl, by rw [hlen]; exact h5, fun i hi => h6 i (by rw [← hlen]; exact hi)⟩
  · exact h.own p (List.mem_cons_of_mem _ hp)
theorem SO.rowW {b : Nat} {e : TypeId} {cs cs' : List AV} {L2 : List Seg} (hu : Up L [(b, .row e cs)] [(b, .row e cs')] L2) (hs : Subs cs cs') (hk : SO P w0 ro n gs l ds L2 Q) : SO P w0 ro n gs l ds L Q := by
  refine ⟨fun ok w I F a hi he hd => ?_⟩
  obtain ⟨G, p1, p2⟩ := hu.perm F
  exact hk.out ok w I F a ((Inv.rowW (hi.perm p1) hs).perm p2.symm) he hd
theorem SW.rowW {co : Code} {b : Nat} {e : TypeId} {cs cs' : List AV} {L2 : List Seg} (hu : Up L [(b, .row e cs)] [(b, .row e cs')] L2) (hs : Subs cs cs') (hk : SW P w0 ro n co l ds L2 Q) : SW P w0 ro n co l ds L Q :=
  SW.of_so fun Q' g => SO.rowW hu hs (SO.nil (g _ _ hk))

/-- Facts that hold in another memory map. -/
theorem Inv.up {w : World} {I J : IMap} {L : HL} {F : HL} (h : Inv w0 w J (L ++ F)) : Inv w0 w J (L ++ F) := h
theorem SO.map (h : ∀ (w : World) (I : IMap) (F : HL), Inv w0 w I (L.flatten ++ F) → ∃ J : IMap, I.le J ∧ Inv w0 w J (L1.flatten ++ F)) (hk : SO P w0 ro n gs l ds L1 Q) : SO P w0 ro n gs l ds L Q := by
  refine ⟨fun ok w I F a hi he hd => ?_⟩
  obtain ⟨J, h1, h2⟩ := h w I F hi
  exact wpG_mono (fun e a w hq => hq.up h1) gs _ _ (hk.out ok w J F a h2 (he.mono h1) hd)
/-- A cell told anew. -/
def setC : List AV → Nat → AV → List AV
  | [], _, _ => []
  | _ :: r, 0, y => y :: r
  | c :: r, k + 1, y => c :: setC r k y
theorem setC_get (cs : List AV) : ∀ (k : Nat) (y : AV) (j : Nat), (setC cs k y).getD j .any = if j = k ∧ j < cs.length then y else cs.getD j .any := by
  induction cs with
  | nil => intro k y j; simp [setC]
  | cons c r ih =>
    intro k y j
    cases k with
    | zero => cases j <;> simp [setC]
    | succ k =>
      cases j with
      | zero => simp [setC]
      | succ j =>
        have := ih k y j
        simp only [setC, List.getD_cons_succ, this]
        simp
theorem setC_len (cs : List AV) : ∀ (k : Nat) (y : AV), (setC cs k y).length = cs.length := by
  induction cs with
  | nil => intro k y; rfl
  | cons c r ih => intro k y; cases k <;> simp [setC, ih]
/-- What is one's own, and stands in a cell of a row of one's own, becomes what nobody changes. -/
theorem SO.frzC {b : Nat} {e : TypeId} {cs cs' : List AV} {L2 : List Seg} {e2 size m c : Nat} {els : List (List AV)} {a : Option Addr} {s : Seg} (k : Nat) (hB : Bf e2 size els a m c s) (hr : Rm L s L1)
    (hu : Up L1 [(b, .row e cs)] [(b, .row e cs')] L2) (hc : cs[k]? = some (.v (.slice a m c))) (hcs : setC cs k (.sl size m els) = cs') (hk : SO P w0 ro n gs l ds L2 Q) : SO P w0 ro n gs l ds L Q := by
  refine SO.map (fun w I F hi => ?_) hk
  obtain ⟨G, p1, p2⟩ := hu.perm F
  have hp : (L.flatten ++ F).Perm (s ++ ([(b, .row e cs)] ++ G)) := by
    have h1 : (L.flatten ++ F).Perm (s ++ (L1.flatten ++ F)) := by rw [← List.append_assoc]; exact List.Perm.append_right F hr.perm
    exact h1.trans (List.Perm.append_left s p1)
  obtain ⟨J, g1, g2, g3⟩ := hB.frz (hi.perm hp)
  refine ⟨J, g1, Inv.perm ?_ p2.symm⟩
  refine ⟨g2.below, g2.base, g2.imm, fun p hp => ?_, by simpa using g2.nd⟩
  simp only [List.cons_append, List.nil_append, List.mem_cons] at hp
  rcases hp with rfl | hp
  · obtain ⟨h1, o, h2, cc, lo, hi', h3, h4, h5, h6⟩ := g2.own (b, .row e cs) (by simp)
    have hlen : cs'.length = cs.length := by rw [← hcs, setC_len]
    refine ⟨h1, o, h2, cc, lo, hi', h3, ⟨by rw [h4.1, hlen], fun j hj => ?_⟩, by rw [hlen]; exact h5, fun i hi => h6 i (by rw [← hlen]; exact hi)⟩
    rw [← hcs, setC_get]
    have hold := h4.2 j (by rw [← hlen]; exact hj)
    by_cases hjk : j = k
    · subst hjk
      rw [if_pos ⟨rfl, by rw [← hlen]; exact hj⟩]
      rw [List.getD_eq_getElem?_getD, hc] at hold
      generalize cc.getD j undef = x at hold
      cases hold
      exact g3
    · rw [if_neg (fun h => hjk h.1)]; exact hold
  · exact g2.own p (by simp [hp])
theorem SW.frzC {co : Code} {b : Nat} {e : TypeId} {cs cs' : List AV} {L2 : List Seg} {e2 size m c : Nat} {els : List (List AV)} {a : Option Addr} {s : Seg} (k : Nat) (hB : Bf e2 size els a m c s) (hr : Rm L s L1)
    (hu : Up L1 [(b, .row e cs)] [(b, .row e cs')] L2) (hc : cs[k]? = some (.v (.slice a m c))) (hcs : setC cs k (.sl size m els) = cs') (hk : SW P w0 ro n co l ds L2 Q) : SW P w0 ro n co l ds L Q :=
  SW.of_so fun Q' g => SO.frzC k hB hr hu hc hcs (SO.nil (g _ _ hk))
end rules
end Ab
