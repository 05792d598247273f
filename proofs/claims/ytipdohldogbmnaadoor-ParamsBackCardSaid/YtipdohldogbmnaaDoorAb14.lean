/- The rule for a region that draws its order, and how a walk goes through one. It asks that the program ranges over all orders. -/
import Derived.Test.YtipdohldogbmnaaDoorAb13
set_option autoImplicit false
set_option linter.unusedVariables false
set_option linter.unusedSimpArgs false
namespace Ab
open Go Go.RowKit

/-- What is asked behind a panic hangs on no slot. -/
class PanicI (Q : Post) : Prop where
  pn : ∀ (ch : List PanicEntry) (l l' : Env) (ds : List Deferred) (L : List Seg), Q (.panic ch) l ds L → Q (.panic ch) l' ds L
instance (tt : Tab) (fn : Func) (R : AV → List Seg → Prop) (Pn : Value → List Seg → Prop) : PanicI (retQ tt fn R Pn) :=
  ⟨fun ch l l' ds L h => by
    match ch, h with
    | [{ v, recovered := false, goexit := false }], h => exact h⟩
instance (N : Env → List Deferred → List Seg → Prop) (Q : Post) [h : PanicI Q] : PanicI (thenQ N Q) := ⟨fun ch l l' ds L k => h.pn ch l l' ds L k⟩
instance (id : Nat) (Q : Post) [h : PanicI Q] : PanicI (blockQ id Q) := ⟨fun ch l l' ds L k => h.pn ch l l' ds L k⟩

section
variable (P : Program) (w0 : World) (ro : Option Nat) (n : Nat)
def nextS (I : IMap) (F : HL) (M : List Seg) (g : GOp) (a : Act) (K : AV → List Seg → Prop) : Act → World → Prop := fun a' w' =>
  ∃ (y : Value) (J : IMap) (r : AV) (L' : List Seg), a' = a.put g.dst y ∧ I.le J ∧ Rel J r y ∧ Inv w0 w' J (L'.flatten ++ (M.flatten ++ F)) ∧ K r L'
/-- An operation that does something, as long as M stands. -/
def StepS (M : List Seg) (g : GOp) (l : Env) (ds : List Deferred) (Lx : List Seg) (K : AV → List Seg → Prop) (Q : Post) : Prop :=
  ∀ (w : World) (I : IMap) (F : HL) (a : Act), Inv w0 w I (Lx.flatten ++ (M.flatten ++ F)) → EnvOk I n a.tmps l → a.defers = ds →
    wantedG g a.tmps = true ∧ g.o.uponIn (fence ro) 0 P a (nextS w0 I F M g a K) (postW w0 n I F Q) ((execOp a.eval g.o).run P w)
/-- An operation that waits for all others. -/
def lastD (D : List DOp) (i : Nat) : Bool := match D[i]? with | some o => (List.range D.length).all fun q => Nat.beq q i || o.after.contains q | none => false
def DDn (D : List DOp) (M : List Seg) (ds : List Deferred) (Q : Post) : Nat → List Nat → Env → List Seg → Prop
  | 0, rem, l, Lx => rem = [] ∧ ∃ lf, Wk l lf ∧ Q .normal lf ds (Lx ++ M)
  | k + 1, rem, l, Lx => (rem = [] → ∃ lf, Wk l lf ∧ Q .normal lf ds (Lx ++ M)) ∧
    ∀ (i : Nat) (o : DOp), i ∈ rem → D[i]? = some o → readyD D rem i = true →
      (∃ v, Rd P w0 n M l o.g v ∧ DDn D M ds Q k (rem.erase i) (putE l o.g.dst v) Lx) ∨
      StepS P w0 ro n M o.g l ds Lx (fun r L' => DDn D M ds Q k (rem.erase i) (putE l o.g.dst r) L') Q ∨
      (rem = [i] ∧ lastD D i = true ∧ SO P w0 ro n [o.g] l ds (Lx ++ M) Q)
end

theorem Wk_ext {l l' : Env} (h : ∀ q, lk l q = lk l' q) : ∀ {lf : Env}, Wk l lf → Wk l' lf
  | [], _ => trivial
  | (k, v) :: r, hw => ⟨by rw [← h]; exact hw.1, Wk_ext h hw.2⟩
theorem lk_putE (l : Env) (d : Option Tmp) (v : AV) (q : Nat) : lk (putE l d v) q = if d = some q then v else lk l q := by
  cases d with
  | none => simp [putE]
  | some d =>
    simp only [putE, lk]
    cases hb : Nat.beq d q with
    | true => have := Nat.eq_of_beq_eq_true hb; subst this; simp
    | false =>
      have : d ≠ q := fun e => by subst e; simp at hb
      simp [this]

section
variable {P : Program} {w0 : World} {ro : Option Nat} {n : Nat} {D : List DOp} {M : List Seg} {ds : List Deferred} {Q : Post}

theorem StepS.ext {g : GOp} {l l' : Env} {Lx : List Seg} {K K' : AV → List Seg → Prop} (h : StepS P w0 ro n M g l ds Lx K Q) (hl : ∀ q, lk l q = lk l' q) (hK : ∀ r L, K r L → K' r L) : StepS P w0 ro n M g l' ds Lx K' Q := by
  intro w I F a hi he hd
  obtain ⟨h1, h2⟩ := h w I F a hi ⟨he.1, fun k => by rw [hl]; exact he.2 k⟩ hd
  exact ⟨h1, uponIn_mono (fun a w ⟨y, J, r, L', g1, g2, g3, g4, g5⟩ => ⟨y, J, r, L', g1, g2, g3, g4, hK _ _ g5⟩) h2⟩
theorem DDn.ext : ∀ {k : Nat} {rem : List Nat} {l l' : Env} {Lx : List Seg}, (∀ q, lk l q = lk l' q) → DDn P w0 ro n D M ds Q k rem l Lx → DDn P w0 ro n D M ds Q k rem l' Lx := by
  intro k
  induction k with
  | zero => intro rem l l' Lx hl ⟨h1, lf, h2, h3⟩; exact ⟨h1, lf, Wk_ext hl h2, h3⟩
  | succ k ih =>
    intro rem l l' Lx hl ⟨h1, h2⟩
    refine ⟨fun e => let ⟨lf, g1, g2⟩ := h1 e; ⟨lf, Wk_ext hl g1, g2⟩, fun i o hi ho hr => ?_⟩
    have hput : ∀ v, ∀ q, lk (putE l o.g.dst v) q = lk (putE l' o.g.dst v) q := fun v q => by rw [lk_putE, lk_putE, hl q]
    rcases h2 i o hi ho hr with ⟨v, g1, g2⟩ | g | ⟨g1, g2, g3⟩
    · exact .inl ⟨v, g1.congr fun k _ => hl k, ih (hput v) g2⟩
    · exact .inr (.inl (g.ext hl fun r L hk => ih (hput r) hk))
    · exact .inr (.inr ⟨g1, g2, ⟨fun ok w I F a hi he hd => g3.out ok w I F a hi ⟨he.1, fun k => by rw [hl]; exact he.2 k⟩ hd⟩⟩)

theorem DDn.sound (hsel : ordOk D = true) (hdst : ∀ (i : Nat) (o : DOp), D[i]? = some o → ∀ d, o.g.dst = some d → d < n) {rem σ : List Nat} (hs : SchedOk D rem σ) : ∀ {k : Nat} {l : Env} {Lx : List Seg}, DDn P w0 ro n D M ds Q k rem l Lx →
    ∀ (w : World) (I : IMap) (F : HL) (a : Act), Inv w0 w I (Lx.flatten ++ (M.flatten ++ F)) → EnvOk I n a.tmps l → a.defers = ds →
      wpG (fence ro) P (postW w0 n I F Q) (σ.filterMap fun i => (D[i]?).map (·.g)) a w := by
  induction hs with
  | nil =>
    intro k l Lx h w I F a hi he hd
    have : ∃ lf, Wk l lf ∧ Q .normal lf ds (Lx ++ M) := by
      cases k with
      | zero => exact h.2
      | succ k => exact h.1 rfl
    obtain ⟨lf, h1, h2⟩ := this
    refine ⟨I, lf, Lx ++ M, IMap.le_refl I, he.wk h1, ?_, hd ▸ h2⟩
    rw [List.flatten_append, List.append_assoc]; exact hi
  | @cons rem σ i hi hr hs ih =>
    intro k l Lx h w I F a hinv he hd
    cases k with
    | zero => rw [h.1] at hi; simp at hi
    | succ k =>
      have : ∃ o, D[i]? = some o := by
        unfold readyD at hr
        cases ho : D[i]? with
        | none => rw [ho] at hr; cases hr
        | some o => exact ⟨o, rfl⟩
      obtain ⟨o, ho⟩ := this
      simp only [List.filterMap_cons, ho, Option.map_some, wpG]
      rcases h.2 i o hi ho hr with ⟨v, g1, g2⟩ | g | ⟨g1, g2, g3⟩
      · obtain ⟨x, w1, hx, hv, hinvs⟩ := g1 w I (Lx.flatten ++ F) a (hinv.perm (by
          rw [← List.append_assoc, ← List.append_assoc]
          exact List.Perm.append_right F List.perm_append_comm)) (he.on _)
        have hnext := ih g2 w1 I F (a.put o.g.dst x) (hinvs _ hinv) (he.put (hdst i o ho) hv) (by cases o.g.dst <;> exact hd)
        rcases hx with ⟨hw, hrun⟩ | ⟨hw, rfl, rfl⟩
        · rw [if_pos hw]
          refine ⟨fun _ _ => trivial, ?_⟩
          have hnd := ordOk_sel hsel ho
          rw [Oper.semAt_eq _ _ _ (fun c hc => by
            have : o.g.op = .defer c := hc
            rw [this] at hnd; cases hnd), hrun]
          exact hnext
        · rw [if_neg (by rw [hw]; simp)]
          exact hnext
      · obtain ⟨hw, hup⟩ := g w I F a hinv he hd
        rw [if_pos hw]
        refine ⟨fun _ _ => trivial, ?_⟩
        have hnd := ordOk_sel hsel ho
        rw [Oper.semAt_eq _ _ _ (fun c hc => by
          have : o.g.op = .defer c := hc
          rw [this] at hnd; cases hnd)]
        refine uponIn_mono (fun a' w' ⟨y, J, r, L', e, hJ, hr', hi', hk⟩ => ?_) hup
        subst e
        have := ih hk w' J F (a.put o.g.dst y) hi' ((he.mono hJ).put (hdst i o ho) hr') (by cases o.g.dst <;> exact hd)
        exact wpG_mono (fun e a w hq => hq.up hJ) _ _ _ this
      · subst g1
        have hnil : σ = [] := by
          have e0 : [i].erase i = [] := by simp
          rw [e0] at hs
          clear ih
          cases hs with
          | nil => rfl
          | cons hm _ _ => simp at hm
        subst hnil
        have hinv2 : Inv w0 w I ((Lx ++ M).flatten ++ F) := by rw [List.flatten_append, List.append_assoc]; exact hinv
        have := g3.out (fun g hg => by
          rcases List.mem_cons.1 hg with rfl | hg
          · exact fun d hd' => hdst i o ho d hd'
          · simp at hg) w I F a hinv2 he hd
        simpa only [List.filterMap_nil, wpG] using this

theorem apart_spec {x y : GOp} (h : apartG x y = true) : (∀ d, x.dst = some d → d ∉ looks y) ∧ (∀ d, x.dst = some d → y.dst ≠ some d) ∧ (∀ d, y.dst = some d → d ∉ looks x) := by
  unfold apartG at h
  rw [Bool.and_eq_true] at h
  obtain ⟨h1, h2⟩ := h
  refine ⟨fun d hd => ?_, fun d hd => ?_, fun d hd => ?_⟩
  · rw [hd] at h1; rw [Bool.and_eq_true] at h1; simpa using h1.1
  · rw [hd] at h1; rw [Bool.and_eq_true] at h1
    intro he
    have := h1.2
    rw [he] at this
    simp at this
  · rw [hd] at h2; simpa using h2

theorem put_inj {a : Act} {n : Nat} (hs : a.tmps.size = n) {d : Option Tmp} (hd : ∀ k, d = some k → k < n) {y y' : Value} (h : a.put d y = a.put d y') : d = none ∨ y = y' := by
  cases d with
  | none => exact .inl rfl
  | some d =>
    right
    have hlt := hd d rfl
    have h1 := congrArg (fun a : Act => a.tmps[d]?) h
    simp [Act.put, Array.getElem?_setIfInBounds, hs, hlt] at h1
    exact h1

theorem StepS.back [hp : PanicI Q] {gi gj : GOp} {l : Env} {Lx : List Seg} {K K' : AV → List Seg → Prop} {v : AV} (hap : apartG gi gj = true) (hrd : Rd P w0 n M l gi v) (hns : noSel gj.op = true)
    (hdi : ∀ d, gi.dst = some d → d < n) (hdj : ∀ d, gj.dst = some d → d < n)
    (h : StepS P w0 ro n M gj (putE l gi.dst v) ds Lx K Q) (hK : ∀ r L, K r L → K' r L) : StepS P w0 ro n M gj l ds Lx K' Q := by
  intro w I F a hi he hd
  obtain ⟨ha1, ha2, ha3⟩ := apart_spec hap
  obtain ⟨x, _, _, hx, _⟩ := hrd w I (Lx.flatten ++ F) a (hi.perm (by
    rw [← List.append_assoc, ← List.append_assoc]
    exact List.Perm.append_right F List.perm_append_comm)) (he.on _)
  obtain ⟨hw, hup⟩ := h w I F (a.put gi.dst x) hi (he.put hdi hx) (by cases gi.dst <;> exact hd)
  have hexec : execOp (a.put gi.dst x).eval gj.o = execOp a.eval gj.o := by
    refine execOp_congr gj.o (fun cs b hc => ?_) fun y hy => Act.eval_put fun d hd hyd => ?_
    · have : gj.op = .select cs b := hc
      rw [this] at hns; cases hns
    · subst hyd
      exact ha1 d hd (by simp only [looks, List.mem_append]; exact .inl (mem_tmpsOf (Array.mem_toList_iff.2 hy)))
  have hwant : wantedG gj a.tmps = wantedG gj (a.put gi.dst x).tmps := by
    unfold wantedG
    cases hg : gj.g with
    | none => rfl
    | some sb =>
      obtain ⟨s, b⟩ := sb
      cases s with
      | none => rfl
      | some s =>
        cases hgd : gi.dst with
        | none => rfl
        | some d =>
          have hne : d ≠ s := fun e => ha1 d hgd (by subst e; simp [looks, hg])
          simp [Act.put, Array.getElem?_setIfInBounds_ne hne]
  refine ⟨by rw [hwant]; exact hw, ?_⟩
  rw [hexec] at hup
  have hdef : (a.put gi.dst x).defers = a.defers := by cases gi.dst <;> rfl
  have hsz : (a.put gi.dst x).tmps.size = n := (he.put hdi hx).1
  have hpan : ∀ ch w', postW w0 n I F Q (.panic ch) (a.put gi.dst x) w' → postW w0 n I F Q (.panic ch) a w' := by
    intro ch w' ⟨J, l', L', g1, g2, g3, g4⟩
    refine ⟨J, [], L', g1, ⟨he.1, fun k => .any _⟩, g3, ?_⟩
    rw [hdef] at g4
    exact hp.pn _ _ _ _ _ g4
  have hnext : ∀ y w', nextS w0 I F M gj (a.put gi.dst x) K ((a.put gi.dst x).put gj.dst y) w' → nextS w0 I F M gj a K' (a.put gj.dst y) w' := by
    intro y w' ⟨y', J, r, L', e, g1, g2, g3, g4⟩
    rcases put_inj hsz hdj e with hn | rfl
    · exact ⟨y', J, r, L', by rw [hn]; rfl, g1, g2, g3, hK _ _ g4⟩
    · exact ⟨y, J, r, L', rfl, g1, g2, g3, hK _ _ g4⟩
  generalize (execOp a.eval gj.o).run P w = res at hup
  cases res with
  | halt h' w' => cases h' <;> first | exact hpan _ _ hup | exact hup
  | ok z w' =>
    cases z <;> try exact hup
    case value y => exact hnext y w' hup
    case skip => exact hnext undef w' hup
    case defer d =>
      exfalso
      obtain ⟨y', J, r, L', e, _⟩ := hup
      have h1 := congrArg (fun a : Act => a.defers.length) e
      have h2 : ((({ a.put gi.dst x with defers := d :: (a.put gi.dst x).defers } : Act).put gj.dst undef).defers.length) = (a.put gi.dst x).defers.length + 1 := by cases gj.dst <;> rfl
      have h3 : ((a.put gi.dst x).put gj.dst y').defers.length = (a.put gi.dst x).defers.length := by cases gj.dst <;> rfl
      have h4 := h2.symm.trans (h1.trans h3)
      omega
    case enter f args => exact ⟨hup.1, hup.2.mono fun e w' he => by cases e <;> first | exact hnext _ _ he | exact hpan _ _ he | exact he⟩
    case row row args => exact ⟨hup.1, hup.2.mono fun v w' he => hnext _ _ he⟩
    case round lo f tmps assign body => exact ⟨hup.1, hup.2.mono fun e w' he => by cases e <;> first | exact hnext _ _ he | exact hpan _ _ he | exact he⟩

theorem put_lk {l : Env} {d : Option Tmp} {v : AV} {q : Nat} (h : d ≠ some q) : lk (putE l d v) q = lk l q := by rw [lk_putE, if_neg h]
/-- A read that can be taken may be taken at once. -/
theorem DDn.hoist [hp : PanicI Q] (hord : ordOk D = true) (hdst : ∀ (i : Nat) (o : DOp), D[i]? = some o → ∀ d, o.g.dst = some d → d < n) :
    ∀ {k : Nat} {rem : List Nat} {l : Env} {Lx : List Seg} {i : Nat} {o : DOp} {v : AV}, rem.Nodup → i ∈ rem → D[i]? = some o → readyD D rem i = true → Rd P w0 n M l o.g v →
      DDn P w0 ro n D M ds Q k (rem.erase i) (putE l o.g.dst v) Lx → DDn P w0 ro n D M ds Q (k + 1) rem l Lx := by
  intro k
  induction k with
  | zero =>
    intro rem l Lx i o v hnd hi ho hr hrd h
    refine ⟨fun e => by rw [e] at hi; simp at hi, fun j oj hj hoj hrj => ?_⟩
    by_cases hij : j = i
    · subst hij; rw [ho] at hoj; cases hoj; exact .inl ⟨v, hrd, h⟩
    · have : j ∈ rem.erase i := (List.mem_erase_of_ne hij).2 hj
      rw [h.1] at this; simp at this
  | succ k ih =>
    intro rem l Lx i o v hnd hi ho hr hrd h
    refine ⟨fun e => by rw [e] at hi; simp at hi, fun j oj hj hoj hrj => ?_⟩
    by_cases hij : j = i
    · subst hij; rw [ho] at hoj; cases hoj; exact .inl ⟨v, hrd, h⟩
    · have hje : j ∈ rem.erase i := (List.mem_erase_of_ne hij).2 hj
      have hie : i ∈ rem.erase j := (List.mem_erase_of_ne (Ne.symm hij)).2 hi
      have mono : ∀ {a b : Nat}, readyD D rem a = true → readyD D (rem.erase b) a = true := by
        intro a b ha
        unfold readyD at ha ⊢
        cases hD : D[a]? with
        | none => rw [hD] at ha; cases ha
        | some q =>
          rw [hD] at ha
          refine List.all_eq_true.2 fun c hc => ?_
          have := List.all_eq_true.1 ha c hc
          simp at this ⊢
          exact fun hm => this (List.mem_of_mem_erase hm)
      have hap := ready_apart hord ho hoj hi hj hr hrj (Ne.symm hij)
      obtain ⟨ha1, ha2, ha3⟩ := apart_spec hap
      have go : ∀ (r : AV) (L' : List Seg), DDn P w0 ro n D M ds Q k ((rem.erase i).erase j) (putE (putE l o.g.dst v) oj.g.dst r) L' → DDn P w0 ro n D M ds Q (k + 1) (rem.erase j) (putE l oj.g.dst r) L' := by
        intro r L' hk
        refine ih (hnd.erase j) hie ho (mono hr) (hrd.congr fun q hq => (put_lk fun e => ha3 q e hq).symm) ?_
        rw [List.erase_comm]
        refine DDn.ext (fun q => ?_) hk
        simp only [lk_putE]
        by_cases h1 : oj.g.dst = some q <;> by_cases h2 : o.g.dst = some q
        · exact absurd h1 (ha2 q h2)
        all_goals simp [h1, h2]
      rcases h.2 j oj hje hoj (mono hrj) with ⟨u, g1, g2⟩ | g | ⟨_, g2, _⟩
      · exact .inl ⟨u, g1.congr fun q hq => put_lk fun e => ha1 q e hq, go u Lx g2⟩
      · exact .inr (.inl (g.back hap hrd (ordOk_sel hord hoj) (hdst i o ho) (hdst j oj hoj) go))
      · exfalso
        unfold lastD at g2
        unfold readyD at hrj
        rw [hoj] at g2 hrj
        have hil : i < D.length := (List.getElem?_eq_some_iff.1 ho).1
        have h1 := List.all_eq_true.1 g2 i (List.mem_range.2 hil)
        rw [Bool.or_eq_true] at h1
        rcases h1 with h1 | h1
        · exact hij (Nat.eq_of_beq_eq_true h1).symm
        · have := List.all_eq_true.1 hrj i (by simpa using h1)
          simp at this
          exact this hi

/-- A region whose order is drawn. -/
theorem SW.draw {id : Nat} {ops : Array Oper} (hm : P.follows .mixedOrders = true) (hD : dopsL ops ops.toList = some D) (hord : ordOk D = true) (hd : dstsOk n ops = true)
    {L : List Seg} {l : Env} (Lx : List Seg) (hp : L.flatten.Perm (Lx ++ M).flatten) (h : DDn P w0 ro n D M ds Q D.length (List.range D.length) l Lx) : SW P w0 ro n (.region id ops true) l ds L Q := by
  have hD' := dopsL_eq ops _ _ hD
  have hlen : D.length = ops.size := by rw [← hD']; simp
  have hget : ∀ i : Nat, D[i]? = (ops[i]?).map (fun o => (⟨mkG ops o, afterL o.after.toList⟩ : DOp)) := by intro i; rw [← hD']; simp
  have hdst : ∀ (i : Nat) (o : DOp), D[i]? = some o → ∀ d, o.g.dst = some d → d < n := by
    intro i o ho d hod
    rw [hget i] at ho
    cases hoi : ops[i]? with
    | none => rw [hoi] at ho; cases ho
    | some q =>
      rw [hoi] at ho; cases ho
      have := List.all_eq_true.1 hd q (Array.mem_toList_iff.2 (Array.mem_of_getElem? hoi))
      have e : q.dst = some d := hod
      rw [e] at this
      simpa using this
  refine ⟨fun w I F a hi he hds => wpIn_region_draw fun t => ?_⟩
  simp only [Region.schedule, hm, Bool.true_or, if_true]
  have hall : (List.range ops.size).filter (fun i => !(Array.replicate ops.size false).getD i true) = List.range D.length := by
    rw [hlen]
    refine List.filter_eq_self.2 fun i hi => ?_
    have := List.mem_range.1 hi
    simp [Array.getD_eq_getD_getElem?, this]
  have hs := sched_ok hD' hord ops.size t (Array.replicate ops.size false) (by simp) (Nat.le_trans (List.length_filter_le _ _) (by simp))
  rw [hall] at hs
  refine wpOpsIn_of_wpG _ _ rfl a _ ?_
  have hinv : Inv w0 { w with drawn := w.drawn + 1 } I (Lx.flatten ++ (M.flatten ++ F)) := by
    have h1 : Inv w0 w I (Lx.flatten ++ (M.flatten ++ F)) := hi.perm (by
      rw [← List.append_assoc, ← List.flatten_append]
      exact List.Perm.append_right F hp)
    exact h1.drew
  have := h.sound hord hdst hs { w with drawn := w.drawn + 1 } I F a hinv he hds
  have e : (Region.linearise .any ops t).filterMap (fun i => (D[i]?).map (·.g)) = (Region.linearise .any ops t).filterMap (fun i => (ops[i]?).map (mkG ops)) := by
    congr 1
    funext i
    rw [hget i]
    cases ops[i]? <;> rfl
  unfold Region.linearise at e
  rw [e] at this
  exact this
end
end Ab
