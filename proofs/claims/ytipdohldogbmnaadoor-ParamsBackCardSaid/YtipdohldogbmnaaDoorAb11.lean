/- Short names for the rules that a walk uses by itself, and the rules that part a walk in two. They ask that a table of types is the program's. -/
import Derived.Test.YtipdohldogbmnaaDoorAb10
set_option autoImplicit false
set_option linter.unusedVariables false
set_option linter.unusedSimpArgs false
namespace Ab
open Go Go.RowKit
section rules
variable {P : Program} {tt : Tab} {w0 : World} {ro : Option Nat} {n : Nat} {l : Env} {ds : List Deferred} {L : List Seg} {Q : Post}
variable {e : Option Tmp} {o : Op} {t : TypeId} {gs : List GOp} {d : Nat} {b : Bool} {c : Operand} {x y : Code}
/-- A guard that is not known: both ways. -/
theorem SO.gS {v : Bool} (hb : lk l d = .v (.bool v)) (ht : v = true → SO P w0 ro n (⟨e, o, t, some (some d, b)⟩ :: gs) ((d, .v (.bool true)) :: l) ds L Q)
    (hf : v = false → SO P w0 ro n (⟨e, o, t, some (some d, b)⟩ :: gs) ((d, .v (.bool false)) :: l) ds L Q) : SO P w0 ro n (⟨e, o, t, some (some d, b)⟩ :: gs) l ds L Q := SO.by d hb ht hf
theorem SO.gSD {p : Prop} [Decidable p] (hb : lk l d = .v (.bool (decide p))) (ht : p → SO P w0 ro n (⟨e, o, t, some (some d, b)⟩ :: gs) ((d, .v (.bool true)) :: l) ds L Q)
    (hf : ¬ p → SO P w0 ro n (⟨e, o, t, some (some d, b)⟩ :: gs) ((d, .v (.bool false)) :: l) ds L Q) : SO P w0 ro n (⟨e, o, t, some (some d, b)⟩ :: gs) l ds L Q := SO.byD d hb ht hf
theorem SO.gSN {p : Prop} [Decidable p] (hb : lk l d = .v (.bool (!decide p))) (ht : ¬ p → SO P w0 ro n (⟨e, o, t, some (some d, b)⟩ :: gs) ((d, .v (.bool true)) :: l) ds L Q)
    (hf : p → SO P w0 ro n (⟨e, o, t, some (some d, b)⟩ :: gs) ((d, .v (.bool false)) :: l) ds L Q) : SO P w0 ro n (⟨e, o, t, some (some d, b)⟩ :: gs) l ds L Q := SO.byN d hb ht hf
/-- .. of which it is known which way. -/
theorem SO.gDT {p : Prop} [Decidable p] (hb : lk l d = .v (.bool (decide p))) (hp : p) (ht : SO P w0 ro n (⟨e, o, t, some (some d, b)⟩ :: gs) ((d, .v (.bool true)) :: l) ds L Q) : SO P w0 ro n (⟨e, o, t, some (some d, b)⟩ :: gs) l ds L Q :=
  SO.gSD hb (fun _ => ht) (fun h => absurd hp h)
theorem SO.gDF {p : Prop} [Decidable p] (hb : lk l d = .v (.bool (decide p))) (hp : ¬ p) (ht : SO P w0 ro n (⟨e, o, t, some (some d, b)⟩ :: gs) ((d, .v (.bool false)) :: l) ds L Q) : SO P w0 ro n (⟨e, o, t, some (some d, b)⟩ :: gs) l ds L Q :=
  SO.gSD hb (fun h => absurd h hp) (fun _ => ht)
theorem SO.gNT {p : Prop} [Decidable p] (hb : lk l d = .v (.bool (!decide p))) (hp : ¬ p) (ht : SO P w0 ro n (⟨e, o, t, some (some d, b)⟩ :: gs) ((d, .v (.bool true)) :: l) ds L Q) : SO P w0 ro n (⟨e, o, t, some (some d, b)⟩ :: gs) l ds L Q :=
  SO.gSN hb (fun _ => ht) (fun h => absurd h hp)
theorem SO.gNF {p : Prop} [Decidable p] (hb : lk l d = .v (.bool (!decide p))) (hp : p) (ht : SO P w0 ro n (⟨e, o, t, some (some d, b)⟩ :: gs) ((d, .v (.bool false)) :: l) ds L Q) : SO P w0 ro n (⟨e, o, t, some (some d, b)⟩ :: gs) l ds L Q :=
  SO.gSN hb (fun h => absurd hp h) (fun _ => ht)
theorem SW.cDT {p : Prop} [Decidable p] (hc : ev l c = .v (.bool (decide p))) (hp : p) (ht : SW P w0 ro n x l ds L Q) : SW P w0 ro n (.cond c x y) l ds L Q := SW.condD hc (fun _ => ht) (fun h => absurd hp h)
theorem SW.cDF {p : Prop} [Decidable p] (hc : ev l c = .v (.bool (decide p))) (hp : ¬ p) (ht : SW P w0 ro n y l ds L Q) : SW P w0 ro n (.cond c x y) l ds L Q := SW.condD hc (fun h => absurd h hp) (fun _ => ht)
theorem SW.cNT {p : Prop} [Decidable p] (hc : ev l c = .v (.bool (!decide p))) (hp : ¬ p) (ht : SW P w0 ro n x l ds L Q) : SW P w0 ro n (.cond c x y) l ds L Q := SW.condN hc (fun _ => ht) (fun h => absurd h hp)
theorem SW.cNF {p : Prop} [Decidable p] (hc : ev l c = .v (.bool (!decide p))) (hp : p) (ht : SW P w0 ro n y l ds L Q) : SW P w0 ro n (.cond c x y) l ds L Q := SW.condN hc (fun h => absurd hp h) (fun _ => ht)
/-- The way on is told once for both ends of a part. -/
theorem SW.cut {α : Type} (N : α → Prop) (env : α → Env) (seg : α → List Seg) (h : SW P w0 ro n x l ds L (thenQ (fun l' ds' L' => ∃ a, N a ∧ Wk l' (env a) ∧ ds' = ds ∧ L' = seg a) Q))
    (k : ∀ a, N a → SW P w0 ro n y (env a) ds (seg a) Q) : SW P w0 ro n (.seq x y) l ds L Q := by
  refine SW.seq (h.mono fun e l' ds' L' hq => ?_)
  cases e <;> try exact hq
  obtain ⟨a, h1, h2, h3, h4⟩ := hq
  subst h3; subst h4
  exact (k a h1).wk h2
/-- One result. -/
theorem SW.rt1 {fn : Func} {R : AV → List Seg → Prop} {Pn : Value → List Seg → Prop} {t : Tmp} (hr : fn.results.toList = [.tmp t]) (h : R (lk l t) L) : SW P w0 ro n .ret l [] L (retQ tt fn R Pn) :=
  SW.ret ⟨rfl, [lk l t], by rw [hr]; exact .tmp .nil, h⟩
end rules
end Ab
