/- A Hoare logic over abstract values: definitions and the structural rules; it says of no program that it does anything, and asks nothing. -/
import Derived.ControlIn
import Derived.CallsIn
import Derived.Below
import Derived.Defers
import Derived.KernelRfl
set_option autoImplicit false
set_option linter.unusedVariables false
set_option linter.unusedSimpArgs false
namespace Ab
open Go Go.RowKit

/-! ### Immutable memory -/
abbrev IMap := Nat → Option Obj
def IMap.le (I J : IMap) : Prop := ∀ n o, I n = some o → J n = some o
theorem IMap.le_refl (I : IMap) : I.le I := fun _ _ h => h
theorem IMap.le_trans {I J K : IMap} (h : I.le J) (k : J.le K) : I.le K := fun n o x => k n o (h n o x)
def cellI (I : IMap) (b o : Nat) (x : Value) : Prop := ∃ c e fr, I b = some (.cells c e fr) ∧ c[o]? = some x
theorem cellI.mono {I J : IMap} (h : I.le J) {b o : Nat} {x : Value} (k : cellI I b o x) : cellI J b o x := by
  obtain ⟨c, e, fr, h1, h2⟩ := k
  exact ⟨c, e, fr, h _ _ h1, h2⟩

/-! ### Abstract values -/
inductive AV where
  | any
  | v (x : Value)
  | z
  | sl (size n : Nat) (els : List (List AV))
  | ref (xs : List AV)
  | agg (xs : List AV)
  | tup (xs : List AV)
  | ifc (t : TypeId) (x : AV)
  | fn (f : Fn) (first cap : List AV)
instance : Inhabited AV := ⟨.any⟩

inductive Rel (I : IMap) : AV → Value → Prop
  | any (x : Value) : Rel I .any x
  | v (x : Value) : Rel I (.v x) x
  | z (a : Option Addr) : Rel I .z (.slice a 0 0)
  | sl0 (size : Nat) (a : Option Addr) (c : Nat) : Rel I (.sl size 0 []) (.slice a 0 c)
  | sl (size n : Nat) (els : List (List AV)) (b o c : Nat) (x : Nat → Nat → Value) (hn : els.length = n) (hs : ∀ i, i < n → (els.getD i []).length = size)
      (hc : ∀ i j, i < n → j < size → cellI I b (o + i * size + j) (x i j)) (hr : ∀ i j, i < n → j < size → Rel I ((els.getD i []).getD j .any) (x i j)) (h1 : ∀ i j, i < n → j < size → (x i j).oneCell' = true) (hcap : n ≤ c) :
      Rel I (.sl size n els) (.slice (some ⟨b, o, none⟩) n c)
  | ref (xs : List AV) (b o : Nat) (x : Nat → Value) (hc : ∀ j, j < xs.length → cellI I b (o + j) (x j)) (hr : ∀ j, j < xs.length → Rel I (xs.getD j .any) (x j)) :
      Rel I (.ref xs) (.pointer (some ⟨b, o, none⟩))
  | agg (xs : List AV) (vs : Array Value) (hn : vs.size = xs.length) (hr : ∀ j, j < xs.length → Rel I (xs.getD j .any) (vs.getD j undef)) : Rel I (.agg xs) (.agg vs)
  | tup (xs : List AV) (vs : Array Value) (hn : vs.size = xs.length) (hr : ∀ j, j < xs.length → Rel I (xs.getD j .any) (vs.getD j undef)) : Rel I (.tup xs) (.tuple vs)
  | ifc (t : TypeId) (x : AV) (y : Value) (h : Rel I x y) : Rel I (.ifc t x) (.iface t y)
  | fn (f : Fn) (first cap : List AV) (u w : Array Value) (hn : u.size = first.length) (hm : w.size = cap.length)
      (hu : ∀ j, j < first.length → Rel I (first.getD j .any) (u.getD j undef)) (hw : ∀ j, j < cap.length → Rel I (cap.getD j .any) (w.getD j undef)) :
      Rel I (.fn f first cap) (.func f u w)

theorem Rel.mono {I J : IMap} (h : I.le J) {a : AV} {x : Value} (k : Rel I a x) : Rel J a x := by
  induction k with
  | any x => exact .any x
  | v x => exact .v x
  | z a => exact .z a
  | sl0 s a c => exact .sl0 s a c
  | sl size n els b o c x hn hs hc hr h1 hcap ih => exact .sl size n els b o c x hn hs (fun i j hi hj => (hc i j hi hj).mono h) ih h1 hcap
  | ref xs b o x hc hr ih => exact .ref xs b o x (fun j hj => (hc j hj).mono h) ih
  | agg xs vs hn hr ih => exact .agg xs vs hn ih
  | tup xs vs hn hr ih => exact .tup xs vs hn ih
  | ifc t x y hr ih => exact .ifc t x y ih
  | fn f a b u w hn hm hu hw iu iw => exact .fn f a b u w hn hm iu iw

/-- Lists of values. -/
def RelL (I : IMap) (xs : List AV) (vs : Array Value) : Prop := vs.size = xs.length ∧ ∀ j, j < xs.length → Rel I (xs.getD j .any) (vs.getD j undef)
theorem RelL.mono {I J : IMap} (h : I.le J) {xs : List AV} {vs : Array Value} (k : RelL I xs vs) : RelL J xs vs := ⟨k.1, fun j hj => (k.2 j hj).mono h⟩

/-! ### Objects of one's own -/
inductive AObj where
  | row (e : TypeId) (cs : List AV)
  | map (es : List (AV × AV))
  | raw (o : Obj)
  | rel (p : IMap → Obj → Prop) (h : ∀ I J o, I.le J → p I o → p J o)

def AObj.ok (I : IMap) : AObj → Obj → Prop
  | .row e cs, o => ∃ c lo hi, o = .cells c e (lo, hi) ∧ RelL I cs c ∧ (lo = hi ∨ cs.length ≤ lo) ∧ ∀ i, i < cs.length → (c.getD i undef).oneCell' = true
  | .map es, o => ∃ (arr : Array MapEntry) (clock : Nat), o = .map arr clock ∧ arr.size = es.length ∧
      (∀ i (h : i < arr.size), Rel I (es.getD i (.any, .any)).1 arr[i].key ∧ Rel I (es.getD i (.any, .any)).2 arr[i].val ∧ arr[i].born < clock) ∧
      (∀ i j (hi : i < arr.size) (hj : j < arr.size), arr[i].born = arr[j].born → i = j)
  | .raw o', o => o = o'
  | .rel p _, o => p I o

theorem AObj.ok.mono {I J : IMap} (h : I.le J) {a : AObj} {o : Obj} (k : a.ok I o) : a.ok J o := by
  cases a with
  | row e cs =>
    obtain ⟨c, lo, hi, h1, h2, h3⟩ := k
    exact ⟨c, lo, hi, h1, h2.mono h, h3⟩
  | map es =>
    obtain ⟨arr, clock, h1, h2, h3, h4⟩ := k
    exact ⟨arr, clock, h1, h2, fun i hi => ⟨(h3 i hi).1.mono h, (h3 i hi).2.1.mono h, (h3 i hi).2.2⟩, h4⟩
  | raw o' => exact k
  | rel p hp => exact hp I J o h k

abbrev HL := List (Nat × AObj)
structure Inv (w0 w : World) (I : IMap) (L : HL) : Prop where
  below : Below w0.heap.size w0 w
  base : ∀ n, n < w0.heap.size → I n = w0.heap[n]?
  imm : ∀ n o, I n = some o → w.heap[n]? = some o
  own : ∀ p, p ∈ L → I p.1 = none ∧ ∃ o, w.heap[p.1]? = some o ∧ p.2.ok I o
  nd : (L.map (·.1)).Nodup

theorem Inv.perm {w0 w : World} {I : IMap} {L L' : HL} (h : Inv w0 w I L) (p : L.Perm L') : Inv w0 w I L' :=
  ⟨h.below, h.base, h.imm, fun q hq => h.own q (p.mem_iff.2 hq), (p.map _).nodup_iff.1 h.nd⟩
theorem Inv.sub {w0 w : World} {I : IMap} {L L' : HL} (h : Inv w0 w I L) (p : L'.Sublist L) : Inv w0 w I L' :=
  ⟨h.below, h.base, h.imm, fun q hq => h.own q (p.subset hq), (p.map _).nodup h.nd⟩
theorem Inv.drew {w0 w : World} {I : IMap} {L : HL} (h : Inv w0 w I L) : Inv w0 w.drew I L := ⟨h.below.drew, h.base, h.imm, h.own, h.nd⟩
theorem Inv.ge {w0 w : World} {I : IMap} {L : HL} (h : Inv w0 w I L) {p : Nat × AObj} (hp : p ∈ L) : w0.heap.size ≤ p.1 := by
  rcases Nat.lt_or_ge p.1 w0.heap.size with hlt | hge
  · have h1 := h.base p.1 hlt
    rw [(h.own p hp).1] at h1
    rw [Array.getElem?_eq_getElem hlt] at h1
    cases h1
  · exact hge
theorem Inv.size {w0 w : World} {I : IMap} {L : HL} (h : Inv w0 w I L) : w0.heap.size ≤ w.heap.size := h.below.size
theorem Inv.none_ge {w0 w : World} {I : IMap} {L : HL} (h : Inv w0 w I L) {n : Nat} (hn : w.heap.size ≤ n) : I n = none := by
  cases hI : I n with
  | none => rfl
  | some o =>
    have h1 := h.imm n o hI
    rw [Array.getElem?_eq_none hn] at h1
    cases h1
theorem Inv.lt {w0 w : World} {I : IMap} {L : HL} (h : Inv w0 w I L) {p : Nat × AObj} (hp : p ∈ L) : p.1 < w.heap.size := by
  obtain ⟨_, o, ho, _⟩ := h.own p hp
  exact (Array.getElem?_eq_some_iff.1 ho).1

theorem heap_push_old (w : World) (o : Obj) {n : Nat} (h : n < w.heap.size) : (w.alloc o).heap[n]? = w.heap[n]? := Below.heap_alloc w o n h
theorem heap_push_new (w : World) (o : Obj) : (w.alloc o).heap[w.heap.size]? = some o := by
  show (w.heap.push o)[w.heap.size]? = some o
  rw [Array.getElem?_push, if_pos rfl]

/-- A new object of one's own. -/
theorem Inv.alloc {w0 w : World} {I : IMap} {L : HL} (h : Inv w0 w I L) {o : Obj} {ao : AObj} (ho : ao.ok I o) : Inv w0 (w.alloc o) I ((w.heap.size, ao) :: L) := by
  refine ⟨h.below.alloc h.size o, h.base, fun n o' hn => ?_, fun p hp => ?_, ?_⟩
  · have h1 := h.imm n o' hn
    rw [heap_push_old w o (Array.getElem?_eq_some_iff.1 h1).1]; exact h1
  · rcases List.mem_cons.1 hp with rfl | hp
    · exact ⟨h.none_ge (Nat.le_refl _), o, heap_push_new w o, ho⟩
    · obtain ⟨h1, o', h2, h3⟩ := h.own p hp
      exact ⟨h1, o', by rw [heap_push_old w o (h.lt hp)]; exact h2, h3⟩
  · rw [List.map_cons, List.nodup_cons]
    refine ⟨fun hm => ?_, h.nd⟩
    obtain ⟨p, hp, he⟩ := List.mem_map.1 hm
    have := h.lt hp
    omega

/-- An object of one's own becomes another one. -/
theorem Inv.set {w0 w w' : World} {I : IMap} {b : Nat} {ao ao' : AObj} {L : HL} (h : Inv w0 w I ((b, ao) :: L)) {o : Obj} (ho : ao'.ok I o)
    (hos : w'.os = w.os) (htape : w'.tape = w.tape) (hout : w'.output = w.output) (hsz : w'.heap.size = w.heap.size)
    (hnew : w'.heap[b]? = some o) (hold : ∀ n, n ≠ b → w'.heap[n]? = w.heap[n]?) : Inv w0 w' I ((b, ao') :: L) := by
  have hge := h.ge (p := (b, ao)) (by simp)
  have hI := (h.own (b, ao) (by simp)).1
  refine ⟨?_, h.base, fun n o' hn => ?_, fun p hp => ?_, ?_⟩
  · exact h.below.trans ⟨hos, htape, hout, by omega, fun k hk => hold k (fun e => by subst e; exact absurd hk (by simp at hge; omega))⟩
  · rw [hold n (fun e => by subst e; simp at hI; rw [hI] at hn; cases hn)]; exact h.imm n o' hn
  · rcases List.mem_cons.1 hp with rfl | hp
    · exact ⟨hI, o, hnew, ho⟩
    · obtain ⟨h1, o', h2, h3⟩ := h.own p (List.mem_cons_of_mem _ hp)
      refine ⟨h1, o', ?_, h3⟩
      rw [hold p.1 (fun e => ?_)]; exact h2
      have := h.nd
      rw [List.map_cons, List.nodup_cons] at this
      exact this.1 (List.mem_map.2 ⟨p, hp, e⟩)
  · have := h.nd
    simpa using this

/-- An object of one's own is frozen. -/
theorem Inv.freeze {w0 w : World} {I : IMap} {b : Nat} {ao : AObj} {L : HL} (h : Inv w0 w I ((b, ao) :: L)) {o : Obj} (ho : w.heap[b]? = some o) :
    ∃ J : IMap, I.le J ∧ J b = some o ∧ Inv w0 w J L := by
  have hI := (h.own (b, ao) (by simp)).1
  have hle : I.le (fun n => if n = b then some o else I n) := fun n o' hn => by
    show (if n = b then some o else I n) = some o'
    by_cases e : n = b
    · subst e; simp at hI; rw [hI] at hn; cases hn
    · rw [if_neg e]; exact hn
  refine ⟨fun n => if n = b then some o else I n, hle, by simp, h.below, fun n hn => ?_, fun n o' hn => ?_, fun p hp => ?_, ?_⟩
  · have hge := h.ge (p := (b, ao)) (by simp)
    show (if n = b then some o else I n) = _
    rw [if_neg (by simp at hge; omega)]; exact h.base n hn
  · by_cases e : n = b
    · subst e; simp at hn; subst hn; exact ho
    · simp only [if_neg e] at hn; exact h.imm n o' hn
  · obtain ⟨h1, o', h2, h3⟩ := h.own p (List.mem_cons_of_mem _ hp)
    have hne : p.1 ≠ b := fun e => by
      have := h.nd
      rw [List.map_cons, List.nodup_cons] at this
      exact this.1 (List.mem_map.2 ⟨p, hp, e⟩)
    exact ⟨by show (if p.1 = b then some o else I p.1) = none; rw [if_neg hne]; exact h1, o', h2, h3.mono hle⟩
  · have := h.nd
    rw [List.map_cons, List.nodup_cons] at this
    exact this.2

/-! ### Slots -/
abbrev Env := List (Nat × AV)
def lk : Env → Nat → AV
  | [], _ => .any
  | (k, v) :: r, i => bif Nat.beq k i then v else lk r i
def ev (l : Env) : Operand → AV
  | .tmp t => lk l t
  | .const x => .v x
  | .global g => .v (.pointer (some ⟨g, 0, none⟩))
  | .func f => .fn (.func f) [] []
def putE (l : Env) (d : Option Tmp) (v : AV) : Env := match d with | some d => (d, v) :: l | none => l

def EnvOk (I : IMap) (n : Nat) (tmps : Array Value) (l : Env) : Prop := tmps.size = n ∧ ∀ k, Rel I (lk l k) (tmps.getD k undef)
theorem EnvOk.mono {I J : IMap} (h : I.le J) {n : Nat} {tmps : Array Value} {l : Env} (k : EnvOk I n tmps l) : EnvOk J n tmps l := ⟨k.1, fun i => (k.2 i).mono h⟩
theorem EnvOk.ev {I : IMap} {n : Nat} {a : Act} {l : Env} (h : EnvOk I n a.tmps l) (x : Operand) : Rel I (ev l x) (a.eval x) := by
  cases x with
  | tmp t => exact h.2 t
  | const x => exact .v x
  | global g => exact .v _
  | func f => exact .fn _ _ _ _ _ rfl rfl (fun j hj => absurd hj (by simp)) (fun j hj => absurd hj (by simp))
theorem EnvOk.put {I : IMap} {n : Nat} {a : Act} {l : Env} (h : EnvOk I n a.tmps l) {d : Option Tmp} (hd : ∀ k, d = some k → k < n) {v : AV} {x : Value} (hx : Rel I v x) :
    EnvOk I n (a.put d x).tmps (putE l d v) := by
  cases d with
  | none => exact h
  | some d =>
    have hlt := hd d rfl
    refine ⟨by simp [Act.put, h.1], fun k => ?_⟩
    simp only [putE, lk, Act.put]
    by_cases e : d = k
    · subst e
      have : Nat.beq d d = true := by simp
      rw [this]
      have h2 : (a.tmps.setIfInBounds d x).getD d undef = x := by
        have := h.1
        simp [Array.getD_eq_getD_getElem?, Array.getElem?_setIfInBounds, this, hlt]
      rw [h2]; exact hx
    · have : Nat.beq d k = false := by
        cases hb : Nat.beq d k with
        | false => rfl
        | true => exact absurd (Nat.eq_of_beq_eq_true hb) e
      rw [this]
      have h2 : (a.tmps.setIfInBounds d x).getD k undef = a.tmps.getD k undef := by
        simp [Array.getD_eq_getD_getElem?, Array.getElem?_setIfInBounds, e]
      rw [h2]; exact h.2 k

/-- One list of slots says no more than another. -/
def Wk (l : Env) : Env → Prop
  | [] => True
  | (k, v) :: r => lk l k = v ∧ Wk l r
theorem EnvOk.wk {I : IMap} {n : Nat} {tmps : Array Value} {l l' : Env} (h : EnvOk I n tmps l) (hw : Wk l l') : EnvOk I n tmps l' := by
  refine ⟨h.1, fun k => ?_⟩
  induction l' with
  | nil => exact .any _
  | cons p r ih =>
    obtain ⟨k', v⟩ := p
    obtain ⟨h1, h2⟩ := hw
    simp only [lk]
    cases hb : Nat.beq k' k with
    | true =>
      have : k' = k := Nat.eq_of_beq_eq_true hb
      subst this
      exact h1 ▸ h.2 k'
    | false => exact ih h2

/-! ### Code -/
abbrev Seg := HL
abbrev Post := Exit → Env → List Deferred → List Seg → Prop
def fence (ro : Option Nat) : Fence := { Fence.wide with round := ro }
theorem fence_fn (ro : Option Nat) (f : FuncId) : (fence ro).fn f := trivial
def postW (w0 : World) (n : Nat) (I : IMap) (F : HL) (Q : Post) : Exit → Act → World → Prop := fun e a' w' =>
  ∃ (I' : IMap) (l' : Env) (L' : List Seg), I.le I' ∧ EnvOk I' n a'.tmps l' ∧ Inv w0 w' I' (L'.flatten ++ F) ∧ Q e l' a'.defers L'
theorem postW.up {w0 : World} {n : Nat} {I J : IMap} {F : HL} {Q : Post} (h : I.le J) {e : Exit} {a : Act} {w : World} (k : postW w0 n J F Q e a w) : postW w0 n I F Q e a w := by
  obtain ⟨I', l', L', h1, h2⟩ := k
  exact ⟨I', l', L', IMap.le_trans h h1, h2⟩

/-- What holds of code from a state on: slots, deferred calls, objects of one's own. -/
structure SW (P : Program) (w0 : World) (ro : Option Nat) (n : Nat) (c : Code) (l : Env) (ds : List Deferred) (L : List Seg) (Q : Post) : Prop where
  out : ∀ (w : World) (I : IMap) (F : HL) (a : Act), Inv w0 w I (L.flatten ++ F) → EnvOk I n a.tmps l → a.defers = ds → c.wpIn (fence ro) 0 P (postW w0 n I F Q) a w

/-- An operation, and the slot that its guard reads. -/
structure GOp where
  dst : Option Tmp
  op : Op
  type : TypeId
  g : Option (Option Tmp × Bool)
def GOp.o (g : GOp) : Oper := ⟨g.dst, g.op, g.type, "", #[], none⟩
@[simp] theorem GOp.o_mk (d : Option Tmp) (o : Op) (t : TypeId) (g : Option (Option Tmp × Bool)) : GOp.o ⟨d, o, t, g⟩ = ⟨d, o, t, "", #[], none⟩ := rfl
def mkG (ops : Array Oper) (o : Oper) : GOp := ⟨o.dst, o.op, o.type, o.guard.map fun (j, b) => ((ops[j]?).bind (·.dst), b)⟩
def gops (ops : Array Oper) : List GOp := ops.toList.map (mkG ops)
/-- The same, worked out. -/
def gopsL (ops : Array Oper) : List Oper → Option (List GOp)
  | [] => some []
  | ⟨dst, op, type, _, _, guard⟩ :: r =>
    match gopsL ops r with
    | none => none
    | some gs =>
      match guard with
      | none => some (⟨dst, op, type, none⟩ :: gs)
      | some (j, b) =>
        match ops[j]? with
        | none => none
        | some ⟨d, _, _, _, _, _⟩ =>
          match d with
          | none => none
          | some d => some (⟨dst, op, type, some (some d, b)⟩ :: gs)
theorem gopsL_eq (ops : Array Oper) (os : List Oper) (gs : List GOp) (h : gopsL ops os = some gs) : os.map (mkG ops) = gs := by
  induction os generalizing gs with
  | nil => cases h; rfl
  | cons o r ih =>
    obtain ⟨dst, op, type, pos, after, guard⟩ := o
    simp only [gopsL] at h
    split at h
    · cases h
    · rename_i gs' hg
      have hr := ih _ hg
      split at h
      · cases h; simp [hr, mkG]
      · rename_i j b
        split at h
        · cases h
        · rename_i d _ _ _ _ _ hj
          split at h
          · cases h
          · cases h
            simp [hr, mkG, hj]
def wantedG (g : GOp) (tmps : Array Value) : Bool :=
  match g.g with
  | none => true
  | some (s, b) => (match s.bind (tmps[·]?) with | some (.bool x) => some x | _ => none) == some b
def wpG (F : Fence) (P : Program) (Q : Exit → Act → World → Prop) : List GOp → Act → World → Prop
  | [], a, w => Q .normal a w
  | g :: rest, a, w => if wantedG g a.tmps then g.o.wpIn F 0 P a w (wpG F P Q rest) Q else wpG F P Q rest (a.put g.o.dst undef) w

theorem wanted_mkG (ops : Array Oper) (o : Oper) (tmps : Array Value) : Region.wanted o (yielded ops tmps) = wantedG (mkG ops o) tmps := by
  unfold Region.wanted wantedG mkG yielded
  cases o.guard with
  | none => rfl
  | some p => obtain ⟨j, b⟩ := p; rfl
theorem semAt_mkG (ops : Array Oper) (o : Oper) (ro : Option Nat) (ρ : Operand → Value) : (mkG ops o).o.semAt ro ρ = o.semAt ro ρ := by
  obtain ⟨dst, op, type, pos, after, guard⟩ := o
  cases ro <;> cases op <;> rfl

theorem uponIn_mono {F : Fence} {P : Program} {o : Oper} {a : Act} {next next' : Act → World → Prop} {Q : Exit → Act → World → Prop} {r : Result Next}
    (hn : ∀ a w, next a w → next' a w) (h : o.uponIn F 0 P a next Q r) : o.uponIn F 0 P a next' Q r := by
  cases r with
  | halt h' w => cases h' <;> exact h
  | ok x w =>
    cases x <;> try exact h
    case value v => exact hn _ _ h
    case skip => exact hn _ _ h
    case defer d => exact hn _ _ h
    case enter f args => exact ⟨h.1, h.2.mono fun e w' he => by cases e <;> first | exact hn _ _ he | exact he⟩
    case row row args => exact ⟨h.1, h.2.mono fun v w' he => hn _ _ he⟩
    case round l f tmps assign body => exact ⟨h.1, h.2.mono fun e w' he => by cases e <;> first | exact hn _ _ he | exact he⟩

theorem uponIn_monoQ {F : Fence} {P : Program} {o : Oper} {a : Act} {next : Act → World → Prop} {Q Q' : Exit → Act → World → Prop} {r : Result Next}
    (hq : ∀ e a w, Q e a w → Q' e a w) (h : o.uponIn F 0 P a next Q r) : o.uponIn F 0 P a next Q' r := by
  cases r with
  | halt h' w => cases h' <;> first | exact hq _ _ _ h | exact h
  | ok x w =>
    cases x <;> try exact h
    case enter f args => exact ⟨h.1, h.2.mono fun e w' he => by cases e <;> first | exact hq _ _ _ he | (obtain ⟨a, w, k⟩ := he; exact ⟨a, w, hq _ _ _ k⟩) | exact he⟩
    case round l f tmps assign body => exact ⟨h.1, h.2.mono fun e w' he => by cases e <;> first | exact hq _ _ _ he | (obtain ⟨a, w, k⟩ := he; exact ⟨a, w, hq _ _ _ k⟩) | exact he⟩
theorem wpG_mono {F : Fence} {P : Program} {Q Q' : Exit → Act → World → Prop} (hq : ∀ e a w, Q e a w → Q' e a w) : ∀ (gs : List GOp) (a : Act) (w : World), wpG F P Q gs a w → wpG F P Q' gs a w := by
  intro gs
  induction gs with
  | nil => intro a w h; exact hq _ _ _ h
  | cons g rest ih =>
    intro a w h
    simp only [wpG] at h ⊢
    split at h
    · rename_i hw; rw [if_pos hw]
      exact ⟨h.1, uponIn_monoQ hq (uponIn_mono ih h.2)⟩
    · rename_i hw; rw [if_neg hw]
      exact ih _ _ h

theorem wpOpsIn_of_wpG {ro : Option Nat} {P : Program} {ops : Array Oper} {Q : Exit → Act → World → Prop} (idx : List Nat) (gs : List GOp)
    (hg : idx.filterMap (fun i => (ops[i]?).map (mkG ops)) = gs) : ∀ (a : Act) (w : World), wpG (fence ro) P Q gs a w → wpOpsIn (fence ro) 0 P ops Q idx a w := by
  induction idx generalizing gs with
  | nil => intro a w h; subst hg; exact h
  | cons i rest ih =>
    intro a w h
    subst hg
    simp only [wpOpsIn]
    cases ho : ops[i]? with
    | none =>
      simp only [List.filterMap_cons, ho, Option.map_none] at h
      exact ih _ rfl a w h
    | some o =>
      simp only [List.filterMap_cons, ho, Option.map_some, wpG] at h
      have hwt := wanted_mkG ops o a.tmps
      by_cases hw : wantedG (mkG ops o) a.tmps = true
      · rw [if_pos hw] at h
        simp only
        rw [hwt, if_pos hw]
        have h2 := h.2
        rw [semAt_mkG] at h2
        exact ⟨fun f hf => trivial, uponIn_mono (ih _ rfl) h2⟩
      · rw [if_neg hw] at h
        simp only
        rw [hwt, if_neg hw]
        exact ⟨fun f hf => trivial, ih _ rfl _ _ h⟩

theorem gops_range (ops : Array Oper) : (List.range ops.size).filterMap (fun i => (ops[i]?).map (mkG ops)) = gops ops := by
  unfold gops
  rw [← List.filterMap_eq_map]
  have h : ∀ l : List Oper, (List.range l.length).filterMap (fun i => (l[i]?).map (mkG ops)) = l.filterMap (some ∘ mkG ops) := by
    intro l
    induction l with
    | nil => rfl
    | cons o l ih =>
      rw [List.length_cons, List.range_succ_eq_map, List.filterMap_cons, List.filterMap_map]
      simp only [List.getElem?_cons_zero, Option.map_some, List.filterMap_cons, Function.comp]
      rw [← ih]
      congr 1
  have := h ops.toList
  simpa using this

/-- Each slot that is written is one of the frame's. -/
def gsOk (n : Nat) (gs : List GOp) : Prop := ∀ g, g ∈ gs → ∀ k, g.o.dst = some k → k < n
/-- What holds of a row of operations from a state on. -/
structure SO (P : Program) (w0 : World) (ro : Option Nat) (n : Nat) (gs : List GOp) (l : Env) (ds : List Deferred) (L : List Seg) (Q : Post) : Prop where
  out : gsOk n gs → ∀ (w : World) (I : IMap) (F : HL) (a : Act), Inv w0 w I (L.flatten ++ F) → EnvOk I n a.tmps l → a.defers = ds → wpG (fence ro) P (postW w0 n I F Q) gs a w

section rules
variable {P : Program} {w0 : World} {ro : Option Nat} {n : Nat} {l : Env} {ds : List Deferred} {L : List Seg} {Q : Post}

theorem SW.mono {c : Code} {Q' : Post} (h : SW P w0 ro n c l ds L Q) (hq : ∀ e l ds L, Q e l ds L → Q' e l ds L) : SW P w0 ro n c l ds L Q' :=
  ⟨fun w I F a hi he hd => wpIn_mono (h.out w I F a hi he hd) fun e a' w' ⟨I', l', L', h1, h2, h3, h4⟩ => ⟨I', l', L', h1, h2, h3, hq _ _ _ _ h4⟩⟩
theorem SW.wk {c : Code} {l' : Env} (h : SW P w0 ro n c l' ds L Q) (hw : Wk l l') : SW P w0 ro n c l ds L Q :=
  ⟨fun w I F a hi he hd => h.out w I F a hi (he.wk hw) hd⟩
theorem SO.wk {c : List GOp} {l' : Env} (h : SO P w0 ro n c l' ds L Q) (hw : Wk l l') : SO P w0 ro n c l ds L Q :=
  ⟨fun ok w I F a hi he hd => h.out ok w I F a hi (he.wk hw) hd⟩

def dstsOk (n : Nat) (ops : Array Oper) : Bool := ops.toList.all fun o => match o.dst with | some d => Nat.blt d n | none => true

theorem SW.skip (h : Q .normal l ds L) : SW P w0 ro n .skip l ds L Q :=
  ⟨fun w I F a hi he hd => wpIn_skip ⟨I, l, L, IMap.le_refl I, he, hi, hd ▸ h⟩⟩
theorem SW.ret (h : Q .ret l ds L) : SW P w0 ro n .ret l ds L Q :=
  ⟨fun w I F a hi he hd => wpIn_ret ⟨I, l, L, IMap.le_refl I, he, hi, hd ▸ h⟩⟩
theorem SW.exit {id : Nat} (h : Q (.exit id) l ds L) : SW P w0 ro n (.exit id) l ds L Q :=
  ⟨fun w I F a hi he hd => wpIn_exit ⟨I, l, L, IMap.le_refl I, he, hi, hd ▸ h⟩⟩

/-- What follows when the first part is done. -/
def thenQ (N : Env → List Deferred → List Seg → Prop) (Q : Post) : Post
  | .normal, l, ds, L => N l ds L
  | e, l, ds, L => Q e l ds L
theorem SW.seq {x y : Code} (h : SW P w0 ro n x l ds L (thenQ (fun l ds L => SW P w0 ro n y l ds L Q) Q)) : SW P w0 ro n (.seq x y) l ds L Q := by
  refine ⟨fun w I F a hi he hd => wpIn_seq (wpIn_mono (h.out w I F a hi he hd) fun e a' w' ⟨I', l', L', h1, h2, h3, h4⟩ => ?_)⟩
  cases e with
  | normal => exact wpIn_mono (h4.out w' I' F a' h3 h2 rfl) fun e a w hq => hq.up h1
  | exit id => exact ⟨I', l', L', h1, h2, h3, h4⟩
  | goto l => exact ⟨I', l', L', h1, h2, h3, h4⟩
  | ret => exact ⟨I', l', L', h1, h2, h3, h4⟩
  | panic ch => exact ⟨I', l', L', h1, h2, h3, h4⟩
  | outgrown => exact ⟨I', l', L', h1, h2, h3, h4⟩
def blockQ (id : Nat) (Q : Post) : Post
  | .exit id', l, ds, L => bif Nat.beq id' id then Q .normal l ds L else Q (.exit id') l ds L
  | e, l, ds, L => Q e l ds L
theorem SW.block {id : Nat} {c : Code} (h : SW P w0 ro n c l ds L (blockQ id Q)) : SW P w0 ro n (.block id c) l ds L Q := by
  refine ⟨fun w I F a hi he hd => wpIn_block (wpIn_mono (h.out w I F a hi he hd) fun e a' w' ⟨I', l', L', h1, h2, h3, h4⟩ => ?_)⟩
  cases e with
  | exit id' =>
    simp only [Exit.inBlock]
    simp only [blockQ] at h4
    by_cases e : id' = id
    · have hb : Nat.beq id' id = true := by subst e; simp
      rw [hb] at h4
      rw [if_pos e]; exact ⟨I', l', L', h1, h2, h3, h4⟩
    · have hb : Nat.beq id' id = false := by
        cases h : Nat.beq id' id with
        | false => rfl
        | true => exact absurd (Nat.eq_of_beq_eq_true h) e
      rw [hb] at h4
      rw [if_neg e]; exact ⟨I', l', L', h1, h2, h3, h4⟩
  | normal => exact ⟨I', l', L', h1, h2, h3, h4⟩
  | goto l => exact ⟨I', l', L', h1, h2, h3, h4⟩
  | ret => exact ⟨I', l', L', h1, h2, h3, h4⟩
  | panic ch => exact ⟨I', l', L', h1, h2, h3, h4⟩
  | outgrown => exact ⟨I', l', L', h1, h2, h3, h4⟩

theorem SW.cond {c : Operand} {x y : Code} {b : Bool} (hc : ev l c = .v (.bool b)) (ht : b = true → SW P w0 ro n x l ds L Q) (hf : b = false → SW P w0 ro n y l ds L Q) :
    SW P w0 ro n (.cond c x y) l ds L Q := by
  refine ⟨fun w I F a hi he hd => ?_⟩
  have hr := he.ev c
  rw [hc] at hr
  generalize hx : a.eval c = xv at hr
  cases hr
  cases b with
  | true => exact wpIn_cond_true hx ((ht rfl).out w I F a hi he hd)
  | false => exact wpIn_cond_false hx ((hf rfl).out w I F a hi he hd)
theorem SW.condT {c : Operand} {x y : Code} (hc : ev l c = .v (.bool true)) (ht : SW P w0 ro n x l ds L Q) : SW P w0 ro n (.cond c x y) l ds L Q :=
  .cond hc (fun _ => ht) (fun h => by cases h)
theorem SW.condF {c : Operand} {x y : Code} (hc : ev l c = .v (.bool false)) (ht : SW P w0 ro n y l ds L Q) : SW P w0 ro n (.cond c x y) l ds L Q :=
  .cond hc (fun h => by cases h) (fun _ => ht)
theorem SW.condD {c : Operand} {x y : Code} {p : Prop} [Decidable p] (hc : ev l c = .v (.bool (decide p))) (ht : p → SW P w0 ro n x l ds L Q) (hf : ¬ p → SW P w0 ro n y l ds L Q) :
    SW P w0 ro n (.cond c x y) l ds L Q :=
  .cond hc (fun h => ht (of_decide_eq_true h)) (fun h => hf (of_decide_eq_false h))

/-- A loop with a ghost. -/
theorem wpIn_loopG {F : Fence} {m : Nat} {β : Type} {c : Code} {R : Exit → Act → World → Prop} {a : Act} {w : World} (J : β → Act → World → Prop) (μ : β → Nat) (x0 : β) (h0 : J x0 a w)
    (round : ∀ x a w, J x a w → c.wpIn F m P (Exit.then (fun a' w' => ∃ y, J y a' w' ∧ μ y < μ x) R) a w) : (Code.loop c).wpIn F m P R a w := by
  intro b k cs hro hb hr
  have key : ∀ j x a w, μ x = j → J x a w →
      ∃ e a' w', R e a' w' ∧ ArrivesIn (Machine.fenced P F) P (lone (b.atR a (.code c :: .inLoop c :: k)) cs w) b k cs e a' w' := by
    intro j
    induction j using Nat.strongRecOn with
    | _ j ih =>
      intro x a w hn hI
      obtain ⟨e, a₁, w₁, hq, harr⟩ := round x a w hI b (.inLoop c :: k) cs hro hb hr
      cases e with
      | normal =>
        obtain ⟨y, hI₁, hlt⟩ := hq
        obtain ⟨e₂, a₂, w₂, hq₂, harr₂⟩ := ih (μ y) (hn ▸ hlt) y a₁ w₁ rfl hI₁
        exact ⟨e₂, a₂, w₂, hq₂, .of_steps (StepsIn.trans harr (.one (fenced_calm hb hr rfl) stepR_inLoop)) harr₂⟩
      | exit id => exact ⟨_, a₁, w₁, hq, .pass (x := .inLoop c) rfl (fun _ _ => .inl (by simp)) harr⟩
      | goto l => exact ⟨_, a₁, w₁, hq, .pass (x := .inLoop c) rfl (fun _ _ => .inl (by simp)) harr⟩
      | ret => exact ⟨_, a₁, w₁, hq, .pass (x := .inLoop c) rfl (fun _ _ => .inl (by simp)) harr⟩
      | panic ch => exact ⟨_, a₁, w₁, hq, .pass (x := .inLoop c) rfl (fun _ _ => .inl (by simp)) harr⟩
      | outgrown => exact ⟨_, a₁, w₁, hq, .pass (x := .inLoop c) rfl (fun _ _ => .inl (by simp)) harr⟩
  obtain ⟨e, a', w', hq, harr⟩ := key _ x0 a w rfl h0
  exact ⟨e, a', w', hq, .of_steps (.one (fenced_calm hb hr rfl) stepR_loop) harr⟩

/-- A loop: what holds at each round's head, told by x; a measure. -/
theorem SW.loop {α : Type} {c : Code} (inv : α → Prop) (env : α → Env) (seg : α → List Seg) (μ : α → Nat) (x0 : α) (hx : inv x0) (h0 : Wk l (env x0)) (hL : L = seg x0)
    (hs : ∀ x, inv x → SW P w0 ro n c (env x) ds (seg x) (thenQ (fun l' ds' L' => ∃ y, inv y ∧ μ y < μ x ∧ Wk l' (env y) ∧ ds' = ds ∧ L' = seg y) Q)) :
    SW P w0 ro n (.loop c) l ds L Q := by
  subst hL
  refine ⟨fun w I F a hi he hd => ?_⟩
  refine wpIn_loopG (fun x a w => inv x ∧ ∃ J, IMap.le I J ∧ EnvOk J n a.tmps (env x) ∧ Inv w0 w J ((seg x).flatten ++ F) ∧ a.defers = ds) μ x0 ⟨hx, I, IMap.le_refl I, he.wk h0, hi, hd⟩ ?_
  intro x a w ⟨hx, J, hJ, he, hi, hd⟩
  refine wpIn_mono ((hs x hx).out w J F a hi he hd) fun e a' w' ⟨I', l', L', h1, h2, h3, h4⟩ => ?_
  cases e with
  | normal =>
    obtain ⟨y, hy, hμ, hw, hds, hL⟩ := h4
    subst hL
    exact ⟨y, ⟨hy, I', IMap.le_trans hJ h1, h2.wk hw, h3, hds⟩, hμ⟩
  | exit id => exact ⟨I', l', L', IMap.le_trans hJ h1, h2, h3, h4⟩
  | goto l => exact ⟨I', l', L', IMap.le_trans hJ h1, h2, h3, h4⟩
  | ret => exact ⟨I', l', L', IMap.le_trans hJ h1, h2, h3, h4⟩
  | panic ch => exact ⟨I', l', L', IMap.le_trans hJ h1, h2, h3, h4⟩
  | outgrown => exact ⟨I', l', L', IMap.le_trans hJ h1, h2, h3, h4⟩

/-! ### Regions -/
theorem dstsOk_mem {n : Nat} {ops : Array Oper} (h : dstsOk n ops = true) {g : GOp} (hg : g ∈ gops ops) : ∀ k, g.o.dst = some k → k < n := by
  intro k hk
  obtain ⟨o, ho, rfl⟩ := List.mem_map.1 hg
  have := List.all_eq_true.1 h o ho
  simp only [mkG, GOp.o] at hk
  rw [hk] at this
  exact (by simpa using this)

/-- A region in the order of the text. -/
theorem SW.region {id : Nat} {ops : Array Oper} {gs : List GOp} (hg : gopsL ops ops.toList = some gs) (hd : dstsOk n ops = true) (h : SO P w0 ro n gs l ds L Q) : SW P w0 ro n (.region id ops false) l ds L Q := by
  have hg' : gops ops = gs := gopsL_eq ops _ _ hg
  subst hg'
  exact ⟨fun w I F a hi he hds => wpIn_region (wpOpsIn_of_wpG _ _ (gops_range ops) a w (h.out (fun _ hg => dstsOk_mem hd hg) w I F a hi he hds))⟩
theorem SO.nil (h : Q .normal l ds L) : SO P w0 ro n [] l ds L Q :=
  ⟨fun ok w I F a hi he hd => ⟨I, l, L, IMap.le_refl I, he, hi, hd ▸ h⟩⟩

/-- One operation that gives a value. -/
theorem SO.valueW {g : GOp} {gs : List GOp} (hg : g.g = none) (hnd : ∀ c, g.o.op ≠ .defer c)
    (hop : ∀ (w : World) (I : IMap) (F : HL) (a : Act), Inv w0 w I (L.flatten ++ F) → EnvOk I n a.tmps l →
      ∃ (x : Value) (w' : World) (J : IMap) (av : AV) (L' : List Seg), (execOp a.eval g.o).run P w = .ok (.value x) w' ∧ I.le J ∧ Rel J av x ∧ Inv w0 w' J (L'.flatten ++ F) ∧
        SO P w0 ro n gs (putE l g.o.dst av) ds L' Q) : SO P w0 ro n (g :: gs) l ds L Q := by
  refine ⟨fun ok w I F a hi he hd => ?_⟩
  obtain ⟨x, w', J, av, L', hrun, hJ, hx, hi', hk⟩ := hop w I F a hi he
  have hw : wantedG g a.tmps = true := by unfold wantedG; rw [hg]
  simp only [wpG, hw, if_true]
  refine ⟨fun _ _ => trivial, ?_⟩
  rw [Oper.semAt_eq _ _ _ hnd, hrun]
  show wpG _ _ _ gs (a.put g.o.dst x) w'
  have h := hk.out (fun g' hg' => ok g' (List.mem_cons_of_mem _ hg')) w' J F (a.put g.o.dst x) hi' ((he.mono hJ).put (ok g (by simp)) hx) (by cases g.o.dst <;> exact hd)
  exact wpG_mono (fun e a w hq => hq.up hJ) gs _ _ h
theorem SO.value {g : GOp} {gs : List GOp} {av : AV} {L' : List Seg} (hg : g.g = none) (hnd : ∀ c, g.o.op ≠ .defer c)
    (hop : ∀ (w : World) (I : IMap) (F : HL) (a : Act), Inv w0 w I (L.flatten ++ F) → EnvOk I n a.tmps l →
      ∃ (x : Value) (w' : World) (J : IMap), (execOp a.eval g.o).run P w = .ok (.value x) w' ∧ I.le J ∧ Rel J av x ∧ Inv w0 w' J (L'.flatten ++ F))
    (hk : SO P w0 ro n gs (putE l g.o.dst av) ds L' Q) : SO P w0 ro n (g :: gs) l ds L Q :=
  SO.valueW hg hnd fun w I F a hi he => let ⟨x, w', J, h1, h2, h3, h4⟩ := hop w I F a hi he; ⟨x, w', J, av, L', h1, h2, h3, h4, hk⟩
/-- One operation that writes. -/
theorem SO.skipW {g : GOp} {gs : List GOp} (hg : g.g = none) (hnd : ∀ c, g.o.op ≠ .defer c)
    (hop : ∀ (w : World) (I : IMap) (F : HL) (a : Act), Inv w0 w I (L.flatten ++ F) → EnvOk I n a.tmps l →
      ∃ (w' : World) (J : IMap) (L' : List Seg), (execOp a.eval g.o).run P w = .ok .skip w' ∧ I.le J ∧ Inv w0 w' J (L'.flatten ++ F) ∧
        SO P w0 ro n gs (putE l g.o.dst .any) ds L' Q) : SO P w0 ro n (g :: gs) l ds L Q := by
  refine ⟨fun ok w I F a hi he hd => ?_⟩
  obtain ⟨w', J, L', hrun, hJ, hi', hk⟩ := hop w I F a hi he
  have hw : wantedG g a.tmps = true := by unfold wantedG; rw [hg]
  simp only [wpG, hw, if_true]
  refine ⟨fun _ _ => trivial, ?_⟩
  rw [Oper.semAt_eq _ _ _ hnd, hrun]
  show wpG _ _ _ gs (a.put g.o.dst undef) w'
  have h := hk.out (fun g' hg' => ok g' (List.mem_cons_of_mem _ hg')) w' J F (a.put g.o.dst undef) hi' ((he.mono hJ).put (ok g (by simp)) (.any _)) (by cases g.o.dst <;> exact hd)
  exact wpG_mono (fun e a w hq => hq.up hJ) gs _ _ h
end rules
end Ab
