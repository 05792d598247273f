/- How a walk goes through a region that draws its order. It asks that the program ranges over all orders and that a table of types is the program's. -/
import Derived.Test.YtipdohldogbmnaaDoorAb14
set_option autoImplicit false
set_option linter.unusedVariables false
set_option linter.unusedSimpArgs false
namespace Ab
open Go Go.RowKit

def rm1 (i : Nat) : List Nat → List Nat
  | [] => []
  | j :: r => bif Nat.beq j i then r else j :: rm1 i r
theorem rm1_eq (i : Nat) (l : List Nat) : rm1 i l = l.erase i := by
  induction l with
  | nil => rfl
  | cons j r ih =>
    simp only [rm1, List.erase_cons]
    cases h : Nat.beq j i with
    | true => have := Nat.eq_of_beq_eq_true h; subst this; simp
    | false =>
      have : (j == i) = false := by
        cases h2 : (j == i) with
        | false => rfl
        | true => have := beq_iff_eq.1 h2; subst this; simp at h
      simp [this, ih]
def hasN (i : Nat) : List Nat → Bool
  | [] => false
  | j :: r => bif Nat.beq i j then true else hasN i r
theorem hasN_eq (i : Nat) (l : List Nat) : hasN i l = l.contains i := by
  induction l with
  | nil => rfl
  | cons j r ih =>
    simp only [hasN, List.contains_cons]
    have : Nat.beq i j = (i == j) := by rw [Bool.eq_iff_iff]; simp
    rw [this, ih]; cases (i == j) <;> rfl
def rdy (D : List DOp) (rem : List Nat) (i : Nat) : Bool := match D[i]? with | some o => o.after.all (fun j => !hasN j rem) | none => false
theorem rdy_eq (D : List DOp) (rem : List Nat) (i : Nat) : rdy D rem i = readyD D rem i := by
  unfold rdy readyD
  cases D[i]? with
  | none => rfl
  | some o => simp only; congr 1; funext j; rw [hasN_eq]
def readyL (D : List DOp) (rem : List Nat) : List Nat := rem.filter (rdy D rem)
/-- The operation i, if it is there and may be taken. -/
def atD (D : List DOp) (rem : List Nat) (i : Nat) : Option GOp := bif hasN i rem && rdy D rem i then (match D[i]? with | some ⟨g, _⟩ => some g | none => none) else none
def find1 (tt : Tab) (D : List DOp) (rem : List Nat) (l : Env) : List Nat → Option (Nat × Option Tmp × AV)
  | [] => none
  | i :: r =>
    match atD D rem i with
    | none => find1 tt D rem l r
    | some ⟨d, o, t, g⟩ => (match g with
      | some _ => find1 tt D rem l r
      | none => (match evalP tt l o with
        | none => find1 tt D rem l r
        | some v => some (i, d, v)))
def runD (tt : Tab) (D : List DOp) : Nat → List Nat → Env → List Nat × Env
  | 0, rem, l => (rem, l)
  | k + 1, rem, l => match find1 tt D rem l rem with
    | none => (rem, l)
    | some (i, d, v) => force v fun v => (match d with | some d => seqL (rm1 i rem) fun rem => runD tt D k rem ((d, v) :: l) | none => seqL (rm1 i rem) fun rem => runD tt D k rem l)
def drawP (tt : Tab) (D : List DOp) (rem : List Nat) (l : Env) : Option (List Nat × Env) :=
  match find1 tt D rem l rem with
  | none => none
  | some (i, d, v) => force v fun v => (match d with | some d => seqL (rm1 i rem) fun rem => some (runD tt D rem.length rem ((d, v) :: l)) | none => seqL (rm1 i rem) fun rem => some (runD tt D rem.length rem l))
theorem find1_spec {tt : Tab} {D : List DOp} {rem : List Nat} {l : Env} {i : Nat} {d : Option Tmp} {v : AV} : ∀ {r : List Nat}, find1 tt D rem l r = some (i, d, v) → ∃ g, atD D rem i = some g ∧ g.dst = d ∧ pure1 tt l g.g g.op = some v := by
  intro r
  induction r with
  | nil => intro h; cases h
  | cons j r ih =>
    intro h
    simp only [find1] at h
    split at h
    · exact ih h
    · rename_i d' o t g hg
      split at h
      · exact ih h
      · split at h
        · exact ih h
        · rename_i u hu
          cases h
          exact ⟨_, hg, rfl, hu⟩
theorem atD_spec {D : List DOp} {rem : List Nat} {i : Nat} {g : GOp} (h : atD D rem i = some g) : i ∈ rem ∧ readyD D rem i = true ∧ ∃ o, D[i]? = some o ∧ o.g = g := by
  unfold atD at h
  cases hb : (hasN i rem && rdy D rem i) with
  | false => rw [hb] at h; cases h
  | true =>
    rw [hb] at h
    rw [Bool.and_eq_true] at hb
    obtain ⟨h1, h2⟩ := hb
    rw [hasN_eq] at h1; rw [rdy_eq] at h2
    cases ho : D[i]? with
    | none => rw [ho] at h; cases h
    | some o =>
      rw [ho] at h
      simp only [cond_true, Option.some.injEq] at h
      exact ⟨by simpa using h1, h2, o, rfl, h⟩

/-- Without what is hidden. -/
def clean : Env → List Nat → Env
  | [], _ => []
  | (k, v) :: r, ks => bif hasN k ks then clean r ks else (k, v) :: clean r (k :: ks)
theorem clean_wk (l : Env) : Wk l (clean l []) := by
  have key : ∀ (r : Env) (ks : List Nat) (l : Env), (∀ k, k ∉ ks → lk l k = lk r k) → Wk l (clean r ks) := by
    intro r
    induction r with
    | nil => intro ks l h; trivial
    | cons p r ih =>
      intro ks l h
      obtain ⟨k, v⟩ := p
      simp only [clean]
      cases hk : hasN k ks with
      | true =>
        simp only [cond_true]
        refine ih ks l fun q hq => ?_
        rw [h q hq]
        simp only [lk]
        rw [hasN_eq] at hk
        have hk' : k ∈ ks := by simpa using hk
        cases hb : Nat.beq k q with
        | true => have := Nat.eq_of_beq_eq_true hb; subst this; exact absurd hk' hq
        | false => rfl
      | false =>
        simp only [cond_false]
        rw [hasN_eq] at hk
        have hk' : k ∉ ks := by simpa using hk
        refine ⟨by rw [h k hk']; simp [lk], ih (k :: ks) l fun q hq => ?_⟩
        rw [h q fun hm => hq (List.mem_cons_of_mem _ hm)]
        simp only [lk]
        cases hb : Nat.beq k q with
        | true => have := Nat.eq_of_beq_eq_true hb; subst this; simp at hq
        | false => rfl
  exact key l [] l fun k _ => rfl

/-- .. worked out to its end. -/
def cleanA : Env → List Nat → Env → Option Env
  | [], _, acc => some acc
  | (k, v) :: r, ks, acc => bif hasN k ks then cleanA r ks acc else cleanA r (k :: ks) ((k, v) :: acc)
theorem wk_mem {l : Env} : ∀ {lf : Env}, Wk l lf ↔ ∀ p, p ∈ lf → lk l p.1 = p.2 := by
  intro lf
  induction lf with
  | nil => simp [Wk]
  | cons p r ih => obtain ⟨k, v⟩ := p; simp [Wk, ih]
theorem cleanA_eq : ∀ (r : Env) (ks : List Nat) (acc out : Env), cleanA r ks acc = some out → out = (clean r ks).reverse ++ acc := by
  intro r
  induction r with
  | nil => intro ks acc out h; cases h; rfl
  | cons p r ih =>
    intro ks acc out h
    obtain ⟨k, v⟩ := p
    simp only [cleanA, clean] at h ⊢
    cases hk : hasN k ks with
    | true => rw [hk] at h; exact ih _ _ _ h
    | false => rw [hk] at h; have := ih _ _ _ h; simpa using this
theorem cleanA_wk {l l' : Env} (h : cleanA l [] [] = some l') : Wk l l' := by
  rw [wk_mem]
  have h2 := wk_mem.1 (clean_wk l)
  intro p hp
  rw [cleanA_eq _ _ _ _ h] at hp
  exact h2 p (by simpa using hp)
/-- Knowing no more. -/
def Le (l l' : Env) : Prop := ∀ q, lk l' q = .any ∨ lk l q = lk l' q
theorem EnvOk.le {I : IMap} {n : Nat} {tmps : Array Value} {l l' : Env} (h : EnvOk I n tmps l) (k : Le l l') : EnvOk I n tmps l' :=
  ⟨h.1, fun q => match k q with | .inl e => by rw [e]; exact .any _ | .inr e => by rw [← e]; exact h.2 q⟩
/-- What is asked behind one operation. -/
def stepQ (l : Env) (d : Option Tmp) (ds : List Deferred) (M : List Seg) (K : AV → List Seg → Prop) (Q : Post) : Post
  | .normal, l', ds', L' => ds' = ds ∧ ∃ r, (d = none → r = .any) ∧ Le l' (putE l d r) ∧ K r L'
  | e, l', ds', L' => Q e l' ds' (L' ++ M)

section
variable (P : Program) (w0 : World) (ro : Option Nat) (n : Nat)
/-- What holds of a region that draws its order, of which the operations of a list are still to be taken. -/
structure DW (D : List DOp) (M : List Seg) (ds : List Deferred) (Q : Post) (rem : List Nat) (l : Env) (Lx : List Seg) : Prop where
  out : PanicI Q → ordOk D = true → (∀ (i : Nat) (o : DOp), D[i]? = some o → ∀ d, o.g.dst = some d → d < n) → rem.Nodup → DDn P w0 ro n D M ds Q rem.length rem l Lx
end
section rules
variable {P : Program} {tt : Tab} {w0 : World} {ro : Option Nat} {n : Nat} {D : List DOp} {M : List Seg} {ds : List Deferred} {Q : Post} {rem : List Nat} {l : Env} {Lx : List Seg}

theorem SW.dw [hp : PanicI Q] {id : Nat} {ops : Array Oper} (hm : P.follows .mixedOrders = true) (hD : dopsL ops ops.toList = some D) (hord : ordOk D = true) (hd : dstsOk n ops = true)
    {L : List Seg} (Lx M : List Seg) (hpm : L.flatten.Perm (Lx ++ M).flatten) {rs : List Nat} (hrs : seqL (List.range D.length) some = some rs) (h : DW P w0 ro n D M ds Q rs l Lx) : SW P w0 ro n (.region id ops true) l ds L Q := by
  rw [seqL_eq, Option.some.injEq] at hrs
  subst hrs
  refine SW.draw hm hD hord hd Lx hpm ?_
  have hD' := dopsL_eq ops _ _ hD
  have := h.out hp hord (fun i o ho d hod => by
    have hget : D[i]? = (ops[i]?).map (fun o => (⟨mkG ops o, afterL o.after.toList⟩ : DOp)) := by rw [← hD']; simp
    rw [hget] at ho
    cases hoi : ops[i]? with
    | none => rw [hoi] at ho; cases ho
    | some q =>
      rw [hoi] at ho; cases ho
      have := List.all_eq_true.1 hd q (Array.mem_toList_iff.2 (Array.mem_of_getElem? hoi))
      have e : q.dst = some d := hod
      rw [e] at this
      simpa using this) List.nodup_range
  simpa using this

theorem DW.ext {l' : Env} (hl : ∀ q, lk l q = lk l' q) (h : DW P w0 ro n D M ds Q rem l Lx) : DW P w0 ro n D M ds Q rem l' Lx := ⟨fun a b c d => (h.out a b c d).ext hl⟩
/-- A read at once. -/
theorem DW.rd (i : Nat) {g : GOp} {v : AV} {rem' : List Nat} (hg : atD D rem i = some g) (hr : rm1 i rem = rem') (hrd : Rd P w0 n M l g v) (h : DW P w0 ro n D M ds Q rem' (putE l g.dst v) Lx) : DW P w0 ro n D M ds Q rem l Lx := by
  refine ⟨fun hp hord hdst hnd => ?_⟩
  obtain ⟨h1, h2, o, h3, h4⟩ := atD_spec hg
  subst h4
  subst hr
  rw [rm1_eq] at h
  have := h.out hp hord hdst (hnd.erase i)
  have hlen : rem.length = (rem.erase i).length + 1 := by rw [List.length_erase_of_mem h1]; have := List.length_pos_of_mem h1; omega
  rw [hlen]
  exact DDn.hoist hord hdst hnd h1 h3 h2 hrd this
theorem pure1_rd (T : TabOk P tt) {g : GOp} {v : AV} (h : pure1 tt l g.g g.op = some v) : Rd P w0 n M l g v := by
  obtain ⟨d, o, t, g⟩ := g
  unfold pure1 at h
  simp only at h
  split at h
  · exact Rd.pure T h
  · rename_i d' b
    split at h
    · rename_i c hc
      cases hx : Bool.xor c b with
      | true =>
        rw [hx] at h; cases h
        have : b = !c := by cases b <;> cases c <;> first | rfl | cases hx
        subst this
        exact Rd.skip hc
      | false =>
        rw [hx] at h
        have : b = c := by cases b <;> cases c <;> first | rfl | cases hx
        subst this
        exact Rd.guard hc (Rd.pure T h)
    · rename_i u hc
      cases h
      exact Rd.skipU hc
    · cases h
  · cases h
theorem DW.runD (T : TabOk P tt) : ∀ (k : Nat) {rem rem' : List Nat} {l l' : Env}, Ab.runD tt D k rem l = (rem', l') → DW P w0 ro n D M ds Q rem' l' Lx → DW P w0 ro n D M ds Q rem l Lx := by
  intro k
  induction k with
  | zero => intro rem rem' l l' h hk; cases h; exact hk
  | succ k ih =>
    intro rem rem' l l' h hk
    simp only [Ab.runD] at h
    split at h
    · cases h; exact hk
    · rename_i i d v hf
      rw [force_eq] at h
      obtain ⟨g, h1, rfl, h3⟩ := find1_spec hf
      have h' : Ab.runD tt D k (rm1 i rem) (putE l g.dst v) = (rem', l') := by
        split at h <;> rename_i hd <;> rw [seqL_eq] at h <;> rw [hd] <;> exact h
      exact DW.rd i h1 rfl (pure1_rd T h3) (ih h' hk)
/-- All that is plain, at once. -/
theorem DW.pu (T : TabOk P tt) {rem' : List Nat} {l' : Env} (h : drawP tt D rem l = some (rem', l')) (hk : DW P w0 ro n D M ds Q rem' l' Lx) : DW P w0 ro n D M ds Q rem l Lx := by
  unfold drawP at h
  split at h
  · cases h
  · rename_i i d v hf
    rw [force_eq] at h
    obtain ⟨g, h1, rfl, h3⟩ := find1_spec hf
    have h' : ∃ k, Ab.runD tt D k (rm1 i rem) (putE l g.dst v) = (rem', l') := by
      split at h <;> rename_i hd <;> rw [seqL_eq] at h <;> rw [hd] <;> simp only [Option.some.injEq] at h <;> exact ⟨_, h⟩
    obtain ⟨k, h'⟩ := h'
    exact DW.rd i h1 rfl (pure1_rd T h3) (DW.runD T _ h' hk)
/-- Those that may be taken and hang on a guard. -/
def fgs (D : List DOp) (rem : List Nat) : List Nat → List Nat
  | [] => []
  | i :: r => (match atD D rem i with
    | some ⟨_, _, _, g⟩ => (match g with | some _ => i :: fgs D rem r | none => fgs D rem r)
    | none => fgs D rem r)
/-- A plain one under a guard that is known. -/
theorem DW.pg (T : TabOk P tt) (k : Nat) {i : Nat} {g : GOp} {v : AV} {rem' : List Nat} (hf : (fgs D rem rem)[k]? = some i) (hg : atD D rem i = some g) (hp : pure1 tt l g.g g.op = some v) (hr : seqL (rm1 i rem) some = some rem')
    (h : DW P w0 ro n D M ds Q rem' (putE l g.dst v) Lx) : DW P w0 ro n D M ds Q rem l Lx := DW.rd i hg (by rw [seqL_eq, Option.some.injEq] at hr; exact hr) (pure1_rd T hp) h
theorem DW.nil {l' : Env} (hc : cleanA l [] [] = some l') (h : Q .normal l' ds (Lx ++ M)) : DW P w0 ro n D M ds Q [] l Lx :=
  ⟨fun _ _ _ _ => ⟨rfl, l', cleanA_wk hc, h⟩⟩

theorem uponIn_put {F : Fence} {n : Nat} {P : Program} {o : Oper} {K : Act → World → Prop} {R : Exit → Act → World → Prop} {a : Act} {res : Result Next}
    (h : o.uponIn F n P a K R res) : o.uponIn F n P a (fun a' w' => K a' w' ∧ (a'.defers = a.defers → ∃ y, a' = a.put o.dst y)) R res := by
  cases res with
  | halt x w' => cases x <;> exact h
  | ok z w' =>
    cases z <;> try exact h
    case value y => exact ⟨h, fun _ => ⟨y, rfl⟩⟩
    case skip => exact ⟨h, fun _ => ⟨undef, rfl⟩⟩
    case defer d =>
      refine ⟨h, fun e => ?_⟩
      have h2 : (({ a with defers := d :: a.defers } : Act).put o.dst undef).defers = d :: a.defers := by cases o.dst <;> rfl
      have h1 := congrArg List.length (h2.symm.trans e)
      simp at h1
    case enter f args => exact ⟨h.1, h.2.mono fun e w' he => by cases e <;> first | exact ⟨he, fun _ => ⟨_, rfl⟩⟩ | exact he⟩
    case row row args => exact ⟨h.1, h.2.mono fun v w' he => ⟨he, fun _ => ⟨_, rfl⟩⟩⟩
    case round lo f tmps assign body => exact ⟨h.1, h.2.mono fun e w' he => by cases e <;> first | exact ⟨he, fun _ => ⟨_, rfl⟩⟩ | exact he⟩

theorem uponIn_monoP {F : Fence} {P : Program} {o : Oper} {a : Act} {next : Act → World → Prop} {R R' : Exit → Act → World → Prop} {r : Result Next}
    (hq : ∀ e a w, e ≠ .normal → R e a w → R' e a w) (h : o.uponIn F 0 P a next R r) : o.uponIn F 0 P a next R' r := by
  cases r with
  | halt h' w => cases h' <;> first | exact hq _ _ _ (by simp) h | exact h
  | ok x w =>
    cases x <;> try exact h
    case enter f args => exact ⟨h.1, h.2.mono fun e w' he => by cases e <;> first | exact hq _ _ _ (by simp) he | (obtain ⟨a, w, k⟩ := he; exact ⟨a, w, hq _ _ _ (by simp) k⟩) | exact he⟩
    case round lo f tmps assign body => exact ⟨h.1, h.2.mono fun e w' he => by cases e <;> first | exact hq _ _ _ (by simp) he | (obtain ⟨a, w, k⟩ := he; exact ⟨a, w, hq _ _ _ (by simp) k⟩) | exact he⟩

theorem stepS_of_SO {g : GOp} {K : AV → List Seg → Prop} (hns : noSel g.op = true) (hdst : ∀ d, g.dst = some d → d < n) (hwt : g.g = none ∨ ∃ d b, g.g = some (some d, b) ∧ lk l d = .v (.bool b))
    (h : SO P w0 ro n [g] l ds Lx (stepQ l g.dst ds M K Q)) : StepS P w0 ro n M g l ds Lx K Q := by
  intro w I F a hi he hd
  have h1 := h.out (fun g' hg' k hk => by
    simp only [List.mem_singleton] at hg'; subst hg'; exact hdst k hk) w I (M.flatten ++ F) a hi he hd
  have hw : wantedG g a.tmps = true := by
    unfold wantedG
    rcases hwt with h0 | ⟨d, b, h0, h2⟩
    · rw [h0]
    · rw [h0]; simp [guard_val he h2]
  refine ⟨hw, ?_⟩
  simp only [wpG, hw, if_true] at h1
  have h2 := h1.2
  rw [Oper.semAt_eq _ _ _ (fun c hc => by
    have : g.op = .defer c := hc
    rw [this] at hns; cases hns)] at h2
  have h3 := uponIn_put h2
  have h4 : g.o.uponIn (fence ro) 0 P a (nextS w0 I F M g a K) (postW w0 n I (M.flatten ++ F) (stepQ l g.dst ds M K Q)) ((execOp a.eval g.o).run P w) := by
    refine uponIn_mono (fun a' w' ⟨⟨J, l', L', g1, g2, g3, g4, ⟨r, g0, g5, g6⟩⟩, g7⟩ => ?_) h3
    obtain ⟨y, hy⟩ := g7 (g4.trans hd.symm)
    have hput := g2.le g5
    rcases hgd : g.dst with _ | d
    · have hy' : a' = a := by rw [hy]; show a.put g.dst y = a; rw [hgd]; rfl
      refine ⟨undef, J, .any, L', ?_, g1, .any _, g3, ?_⟩
      · rw [hy', hgd]; rfl
      · have := g0 hgd; subst this; exact g6
    · refine ⟨y, J, r, L', by rw [hy]; rfl, g1, ?_, g3, g6⟩
      have := hput.2 d
      rw [hgd] at this
      rw [hy] at this
      have hs : d < a.tmps.size := by rw [he.1]; exact hdst d hgd
      have e : g.o.dst = some d := hgd
      simpa [putE, lk, Act.put, e, Array.getD_eq_getD_getElem?, Array.getElem?_setIfInBounds, hs] using this
  refine uponIn_monoP (fun e a' w' hne ⟨J, l', L', g1, g2, g3, g4⟩ => ?_) h4
  cases e with
  | normal => exact absurd rfl hne
  | _ => exact ⟨J, l', L' ++ M, g1, g2, by rw [List.flatten_append, List.append_assoc]; exact g3, g4⟩

/-- An operation that does something, one by one. -/
def EachW (P : Program) (w0 : World) (ro : Option Nat) (n : Nat) (D : List DOp) (M : List Seg) (ds : List Deferred) (Q : Post) (rem : List Nat) (l : Env) (Lx : List Seg) : List Nat → Prop
  | [] => True
  | i :: r => (∃ g, atD D rem i = some g ∧ (g.g = none ∨ ∃ d b, g.g = some (some d, b) ∧ lk l d = .v (.bool b)) ∧ SO P w0 ro n [g] l ds Lx (stepQ l g.dst ds M (fun v L' => DW P w0 ro n D M ds Q (rm1 i rem) (putE l g.dst v) L') Q)) ∧
    EachW P w0 ro n D M ds Q rem l Lx r
theorem DW.each {rs : List Nat} (hne : rem ≠ []) (hr : readyL D rem = rs) (h : EachW P w0 ro n D M ds Q rem l Lx rs) : DW P w0 ro n D M ds Q rem l Lx := by
  refine ⟨fun hp hord hdst hnd => ?_⟩
  obtain ⟨k, hk⟩ : ∃ k, rem.length = k + 1 := ⟨rem.length - 1, by have := List.length_pos_iff.2 hne; omega⟩
  rw [hk]
  refine ⟨fun e => absurd e hne, fun i o hi ho hrd => .inr (.inl ?_)⟩
  have hi' : i ∈ rs := by rw [← hr]; exact List.mem_filter.2 ⟨hi, by rw [rdy_eq]; exact hrd⟩
  have key : ∀ rs : List Nat, EachW P w0 ro n D M ds Q rem l Lx rs → i ∈ rs → ∃ g, atD D rem i = some g ∧ (g.g = none ∨ ∃ d b, g.g = some (some d, b) ∧ lk l d = .v (.bool b)) ∧ SO P w0 ro n [g] l ds Lx (stepQ l g.dst ds M (fun v L' => DW P w0 ro n D M ds Q (rm1 i rem) (putE l g.dst v) L') Q) := by
    intro rs
    induction rs with
    | nil => intro _ h; simp at h
    | cons j r ih =>
      intro ⟨h1, h2⟩ hm
      rcases List.mem_cons.1 hm with rfl | hm
      · exact h1
      · exact ih h2 hm
  obtain ⟨g, h1, h2, h3⟩ := key rs h hi'
  obtain ⟨_, _, o', ho', e⟩ := atD_spec h1
  rw [ho] at ho'; cases ho'; subst e
  have := stepS_of_SO (ordOk_sel hord ho) (hdst i o ho) h2 h3
  refine this.ext (fun _ => rfl) fun r L' hr => ?_
  have hx := hr.out hp hord hdst (by rw [rm1_eq]; exact hnd.erase i)
  rw [rm1_eq] at hx
  have : (rem.erase i).length = k := by rw [List.length_erase_of_mem hi]; omega
  rwa [this] at hx
/-- The one operation that may be taken, and does something. -/
theorem DW.one {i : Nat} {d : Option Tmp} {op : Op} {ty : TypeId} {rem' : List Nat} (hr : readyL D rem = [i]) (hg : atD D rem i = some ⟨d, op, ty, none⟩) (hrm : seqL (rm1 i rem) some = some rem')
    (h : SO P w0 ro n [⟨d, op, ty, none⟩] l ds Lx (stepQ l d ds M (fun v L' => DW P w0 ro n D M ds Q rem' (putE l d v) L') Q)) : DW P w0 ro n D M ds Q rem l Lx := by
  rw [seqL_eq, Option.some.injEq] at hrm
  subst hrm
  exact DW.each (fun e => by subst e; cases hr) hr ⟨⟨_, hg, .inl rfl, h⟩, trivial⟩
theorem DW.oneG {i e : Nat} {b : Bool} {d : Option Tmp} {op : Op} {ty : TypeId} {rem' : List Nat} (hr : readyL D rem = [i]) (hg : atD D rem i = some ⟨d, op, ty, some (some e, b)⟩) (hb : lk l e = .v (.bool b)) (hrm : seqL (rm1 i rem) some = some rem')
    (h : SO P w0 ro n [⟨d, op, ty, none⟩] l ds Lx (stepQ l d ds M (fun v L' => DW P w0 ro n D M ds Q rem' (putE l d v) L') Q)) : DW P w0 ro n D M ds Q rem l Lx := by
  rw [seqL_eq, Option.some.injEq] at hrm
  subst hrm
  exact DW.each (fun e => by subst e; cases hr) hr ⟨⟨_, hg, .inr ⟨e, b, rfl, hb⟩, SO.gT hb h⟩, trivial⟩
/-- .. or one of two. -/
theorem DW.two {i j : Nat} {d d' : Option Tmp} {op op' : Op} {ty ty' : TypeId} {r1 r2 : List Nat} (hr : readyL D rem = [i, j]) (hg : atD D rem i = some ⟨d, op, ty, none⟩) (hg' : atD D rem j = some ⟨d', op', ty', none⟩) (h1 : seqL (rm1 i rem) some = some r1) (h2 : seqL (rm1 j rem) some = some r2)
    (h : SO P w0 ro n [⟨d, op, ty, none⟩] l ds Lx (stepQ l d ds M (fun v L' => DW P w0 ro n D M ds Q r1 (putE l d v) L') Q))
    (h' : SO P w0 ro n [⟨d', op', ty', none⟩] l ds Lx (stepQ l d' ds M (fun v L' => DW P w0 ro n D M ds Q r2 (putE l d' v) L') Q)) : DW P w0 ro n D M ds Q rem l Lx := by
  rw [seqL_eq, Option.some.injEq] at h1 h2
  subst h1; subst h2
  exact DW.each (fun e => by subst e; cases hr) hr ⟨⟨_, hg, .inl rfl, h⟩, ⟨_, hg', .inl rfl, h'⟩, trivial⟩
/-- The last operation of all, which waits for all others: it may change what the others look at. -/
theorem DW.last {i : Nat} {g : GOp} (hr : rem = [i]) (hl : lastD D i = true) (hg : atD D rem i = some g) (h : SO P w0 ro n [g] l ds (Lx ++ M) Q) : DW P w0 ro n D M ds Q rem l Lx := by
  refine ⟨fun hp hord hdst hnd => ?_⟩
  subst hr
  obtain ⟨k, hk⟩ : ∃ k, [i].length = k + 1 := ⟨0, rfl⟩
  rw [hk]
  refine ⟨(fun e => by cases e), fun j o hj ho hrd => .inr (.inr ?_)⟩
  have hji : j = i := by simpa using hj
  subst hji
  obtain ⟨_, _, o', ho', e⟩ := atD_spec hg
  rw [ho] at ho'; cases ho'; subst e
  exact ⟨rfl, hl, h⟩
theorem SO.nilS {d : Tmp} {v : AV} {r' : List Nat} (h : DW P w0 ro n D M ds Q r' ((d, v) :: l) Lx) : SO P w0 ro n [] ((d, v) :: l) ds Lx (stepQ l (some d) ds M (fun v L' => DW P w0 ro n D M ds Q r' (putE l (some d) v) L') Q) :=
  SO.nil ⟨rfl, v, (fun e => by cases e), fun q => .inr rfl, h⟩
theorem SO.nilN {r' : List Nat} (h : DW P w0 ro n D M ds Q r' l Lx) : SO P w0 ro n [] l ds Lx (stepQ l none ds M (fun v L' => DW P w0 ro n D M ds Q r' (putE l none v) L') Q) :=
  SO.nil ⟨rfl, .any, (fun _ => rfl), fun q => .inr rfl, h⟩
/-- .. behind which more is known of other slots. -/
theorem SO.nilW {d : Tmp} {v : AV} {l' : Env} {K : AV → List Seg → Prop} (hl : Le l' l) (hv : lk l' d = v) (h : K v Lx) : SO P w0 ro n [] l' ds Lx (stepQ l (some d) ds M K Q) := by
  refine SO.nil ⟨rfl, v, (fun e => by cases e), fun q => ?_, h⟩
  simp only [putE, lk]
  cases hb : Nat.beq d q with
  | true => have := Nat.eq_of_beq_eq_true hb; subst this; exact .inr hv
  | false => exact hl q
end rules
end Ab
