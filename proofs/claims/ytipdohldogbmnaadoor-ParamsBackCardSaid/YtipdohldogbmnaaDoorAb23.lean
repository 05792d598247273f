/- Ranges over functions. They ask that a table of types is the program's. -/
import Derived.Test.YtipdohldogbmnaaDoorAb22
set_option autoImplicit false
set_option linter.unusedVariables false
set_option linter.unusedSimpArgs false
namespace Ab
open Go Go.RowKit

/-- One round, as who calls yield sees it: st is what the loop's body has made so far. -/
structure Yc (P : Program) (w0 : World) (lo : Nat) {σ : Type} (S : σ → List Seg) (Pre : σ → List AV → Prop) (Y : σ → List AV → σ → Bool → Prop) : Prop where
  out : ∀ (st : σ) (avs : List AV), Pre st avs → ∀ (w : World) (I : IMap) (F : HL) (vals : Array Value), Inv w0 w I ((S st).flatten ++ F) → RelL I avs vals →
    ∃ (f : FuncId) (tmps : Array Value) (assign body : Code), (Instr.yield lo vals).run P w = .ok (.round lo f tmps assign body) w ∧
      RoundIn (fence none) 0 P lo f tmps assign body w fun e w' => ∃ (st' : σ) (b : Bool) (J : IMap), e = .returned (.bool b) ∧ I.le J ∧ Inv w0 w' J ((S st').flatten ++ F) ∧ Y st avs st' b
section rules
variable {P : Program} {tt : Tab} {w0 : World} {n : Nat} {M : List Seg} {l : Env} {ds : List Deferred} {L L1 : List Seg} {Q : Post} {gs : List GOp}
variable {ty : TypeId}

/-- A call of yield. -/
theorem SO.callY {lo : Nat} {σ : Type} {S : σ → List Seg} {Pre : σ → List AV → Prop} {Y : σ → List AV → σ → Bool → Prop} {d : Tmp} {c : Operand} {args : Array Operand} {ts : Array TypeId} {avs : List AV} (st : σ) (hY : Yc P w0 lo S Pre Y)
    (hc : ev l c = .fn (.yield lo) [] []) (hs : Subs (args.toList.map (ev l)) avs) (hp : Pre st avs) (hsp : L.flatten.Perm ((S st).flatten ++ L1.flatten))
    (hk : ∀ st' b, Y st avs st' b → SO P w0 none n gs ((d, .v (.bool b)) :: l) ds (S st' ++ L1) Q) : SO P w0 none n (⟨some d, .call ⟨.value c, args, ts⟩, ty, none⟩ :: gs) l ds L Q := by
  refine ⟨fun ok w I F a hi he hd => ?_⟩
  have h1 := he.ev c
  rw [hc] at h1
  generalize e1 : a.eval c = cv at h1
  cases h1 with
  | fn f' first cap u v hn hm hu hw =>
    have hu' : u = #[] := Array.eq_empty_of_size_eq_zero (by simpa using hn)
    have hv' : v = #[] := Array.eq_empty_of_size_eq_zero (by simpa using hm)
    subst hu'; subst hv'
    have hvals := hs.rel (map_rel he args)
    have hpp : (L.flatten ++ F).Perm ((S st).flatten ++ (L1.flatten ++ F)) := by rw [← List.append_assoc]; exact List.Perm.append_right F hsp
    obtain ⟨f, tmps, assign, body, g1, g2⟩ := hY.out st avs hp w I (L1.flatten ++ F) (args.map a.eval) (hi.perm hpp) hvals
    have hw2 : wantedG (⟨some d, .call ⟨.value c, args, ts⟩, ty, none⟩ : GOp) a.tmps = true := rfl
    simp only [wpG, hw2, if_true]
    refine ⟨fun _ _ => trivial, ?_⟩
    rw [Oper.semAt_eq _ _ _ (by intro c; simp [GOp.o_mk])]
    have hrun : (execOp a.eval (GOp.o ⟨some d, .call ⟨.value c, args, ts⟩, ty, none⟩)).run P w = .ok (.round lo f tmps assign body) w := by
      simp only [GOp.o_mk, execOp, resolve, e1, Deferred.ofValue, Sem.run_bind, Sem.run_pure, Result.andThen_ok, invoke]
      simpa using g1
    rw [hrun]
    refine ⟨(fun h => by cases h), g2.mono fun e w' ⟨st', b, J, h1, h2, h3, h4⟩ => ?_⟩
    subst h1
    have hi2 : Inv w0 w' J ((S st' ++ L1).flatten ++ F) := by rw [List.flatten_append, List.append_assoc]; exact h3
    have h := (hk st' b h4).out (fun g' hg' => ok g' (List.mem_cons_of_mem _ hg')) w' J F (a.put (some d) (.bool b)) hi2 ((he.mono h2).put (ok ⟨some d, .call ⟨.value c, args, ts⟩, ty, none⟩ (by simp)) (.v _)) hd
    exact wpG_mono (fun e a w hq => hq.up h2) gs _ _ h

/-- The slots of a round: the loop's own, and what yield was given. -/
def putL : List Tmp → List AV → Env → Env
  | p :: ps, a :: as, l => putL ps as ((p, a) :: l)
  | _, _, l => l
/-- How a round ends. -/
def rndQ {σ : Type} (C : σ → List Seg) (Jm : σ → Option Code) (Y : σ → Bool → Prop) : Post
  | .normal, l, ds, L => ∃ st', Jm st' = none ∧ L = C st' ∧ Y st' true
  | .ret, l, ds, L => ∃ st', Jm st' = some .ret ∧ L = C st' ∧ Y st' false
  | .exit id, l, ds, L => ∃ st', Jm st' = some (.exit id) ∧ L = C st' ∧ Y st' false
  | _, _, _, _ => False
theorem envOk_putL {I : IMap} : ∀ (ps : List Tmp) (as : List AV) (vs : List Value) (tmps : Array Value) (l : Env), EnvOk I n tmps l → as.length = vs.length → ps.length = vs.length → (∀ j, j < as.length → Rel I (as.getD j .any) (vs.getD j undef)) → (∀ p, p ∈ ps → p < n) →
    EnvOk I n ((ps.zip vs).foldl (fun tmps (x : Tmp × Value) => tmps.setIfInBounds x.1 x.2) tmps) (putL ps as l) := by
  intro ps
  induction ps with
  | nil => intro as vs tmps l he h1 h2 h3 h4; cases as <;> exact he
  | cons p ps ih =>
    intro as vs tmps l he h1 h2 h3 h4
    cases vs with
    | nil => simp at h2
    | cons v vs =>
      cases as with
      | nil => simp at h1
      | cons a as =>
        simp only [putL, List.zip_cons_cons, List.foldl_cons]
        refine ih as vs _ _ ?_ (by simpa using h1) (by simpa using h2) (fun j hj => by simpa using h3 (j + 1) (by simpa using hj)) (fun q hq => h4 q (List.mem_cons_of_mem _ hq))
        have h0 := h3 0 (by simp)
        simp only [List.getD_cons_zero] at h0
        exact EnvOk.put (a := { tmps := tmps, defers := [] }) (d := some p) he (fun k hk => by cases hk; exact h4 p (by simp)) h0

/-- The record of a range over a function: its slots are the loop's own. -/
def loopO (n : Nat) (l : Env) (fn : FuncId) (ps : Array Tmp) (assign body : Code) (r : Nat) (j : Option Code) : AObj :=
  .rel (fun I o => ∃ tmps, o = .loop { state := if j.isNone then .ready else .done, pending := j, fn, tmps, params := ps, assign, body, defers := r } ∧ EnvOk I n tmps l) (fun I J o h ⟨t, h1, h2⟩ => ⟨t, h1, h2.mono h⟩)
/-- A loop's body as who calls yield sees it. -/
theorem Yc.mk' {lo r : Nat} {σ : Type} {C : σ → List Seg} {Jm : σ → Option Code} {Pre : σ → List AV → Prop} {Y : σ → List AV → σ → Bool → Prop} {fn : FuncId} {ps : Array Tmp} {assign body : Code} (hps : ∀ p, p ∈ ps.toList → p < n)
    (hpre : ∀ st avs, Pre st avs → Jm st = none ∧ avs.length = ps.size)
    (h : ∀ st avs, Pre st avs → SW P w0 (some lo) n assign (putL ps.toList avs l) [] (C st) (thenQ (fun l1 ds1 L1 => SW P w0 (some lo) n body l1 ds1 L1 (rndQ C Jm (fun st' b => Y st avs st' b))) (fun _ _ _ _ => False))) :
    Yc P w0 lo (fun st => [(lo, loopO n l fn ps assign body r (Jm st))] :: C st) Pre Y := by
  refine ⟨fun st avs hp w I F vals hi hv => ?_⟩
  obtain ⟨hj, hlen⟩ := hpre st avs hp
  have hi' : Inv w0 w I ((lo, loopO n l fn ps assign body r (Jm st)) :: ((C st).flatten ++ F)) := by simpa using hi
  obtain ⟨hI, o, ho, tmps, rfl, he⟩ := hi'.own (lo, loopO n l fn ps assign body r (Jm st)) (by simp)
  rw [hj] at ho
  have hsz : vals.size = ps.size := by rw [hv.1, hlen]
  have hrun := run_yield (P := P) (args := vals) ho hsz
  refine ⟨_, _, _, _, hrun, ?_⟩
  refine roundIn_of_wpIn trivial ?_
  have hfr : (fence none).inRound lo = fence (some lo) := rfl
  rw [hfr]
  have hpm : ((lo, loopO n l fn ps assign body r (Jm st)) :: ((C st).flatten ++ F)).Perm ((C st).flatten ++ ((lo, loopO n l fn ps assign body r (Jm st)) :: F)) := List.perm_middle.symm
  have hfold : ((ps.zip vals).foldl (fun tmps (x : Tmp × Value) => tmps.setIfInBounds x.1 x.2) tmps) = ((ps.toList.zip vals.toList).foldl (fun tmps (x : Tmp × Value) => tmps.setIfInBounds x.1 x.2) tmps) := by
    rw [← Array.foldl_toList, Array.toList_zip]
  have hea : EnvOk I n ((ps.zip vals).foldl (fun tmps (x : Tmp × Value) => tmps.setIfInBounds x.1 x.2) tmps) (putL ps.toList avs l) := by
    rw [hfold]
    refine envOk_putL ps.toList avs vals.toList tmps l he (by have := hv.1; simp; omega) (by simp; omega) (fun j hj => ?_) hps
    have := hv.2 j hj
    rw [Array.getD_eq_getD_getElem?] at this
    rw [List.getD_eq_getElem?_getD (l := vals.toList), Array.getElem?_toList]; exact this
  refine wpIn_mono ((h st avs hp).out w I ((lo, loopO n l fn ps assign body r (Jm st)) :: F) _ (hi'.perm hpm) hea rfl) fun e a1 w1 ⟨J, l1, L1, g1, g2, g3, g4⟩ => ?_
  cases e with
  | normal =>
    have g3' : Inv w0 w1 J ((lo, loopO n l fn ps assign body r (Jm st)) :: (L1.flatten ++ F)) := g3.perm List.perm_middle
    obtain ⟨hI1, o1, ho1, tmps1, rfl, he1⟩ := g3'.own (lo, loopO n l fn ps assign body r (Jm st)) (by simp)
    rw [hj] at ho1
    refine ⟨_, run_beginRound (P := P) ho1 rfl, ?_⟩
    have hb := g3'.putRaw (o := .loop { state := .busy, pending := none, fn, tmps := tmps1, params := ps, assign, body, defers := r })
    refine wpIn_mono (g4.out _ J ((lo, .raw (.loop { state := .busy, pending := none, fn, tmps := tmps1, params := ps, assign, body, defers := r })) :: F) a1 (hb.perm List.perm_middle.symm) g2 rfl) fun e a2 w2 ⟨J2, l2, L2, k1, k2, k3, k4⟩ => ?_
    have k3' : Inv w0 w2 J2 ((lo, .raw (.loop { state := .busy, pending := none, fn, tmps := tmps1, params := ps, assign, body, defers := r })) :: (L2.flatten ++ F)) := k3.perm List.perm_middle
    obtain ⟨hI2, o2, ho2, ho2'⟩ := k3'.own (lo, .raw (.loop { state := .busy, pending := none, fn, tmps := tmps1, params := ps, assign, body, defers := r })) (by simp)
    have ho2'' : o2 = .loop { state := .busy, pending := none, fn, tmps := tmps1, params := ps, assign, body, defers := r } := ho2'
    subst ho2''
    have fin : ∀ (j : Option Code) (st' : σ) (b : Bool), Jm st' = j → L2 = C st' → Y st avs st' b → b = j.isNone → ∃ v w', (Instr.endRound lo j).run P w2 = .ok v w' ∧
        ∃ (st' : σ) (b : Bool) (J : IMap), Ending.returned v = .returned (.bool b) ∧ I.le J ∧ Inv w0 w' J (([(lo, loopO n l fn ps assign body r (Jm st'))] :: C st').flatten ++ F) ∧ Y st avs st' b := by
      intro j st' b hj' hL hY hb'
      refine ⟨_, _, run_endRound (P := P) j ho2, st', b, J2, by rw [hb'], IMap.le_trans g1 k1, ?_, hY⟩
      subst hL
      have hlt : lo < w2.heap.size := (Array.getElem?_eq_some_iff.1 ho2).1
      have := Inv.set k3' (ao' := loopO n l fn ps assign body r (Jm st')) (o := .loop { state := if j.isNone then .ready else .done, pending := j, fn, tmps := tmps1, params := ps, assign, body, defers := r }) ⟨tmps1, by rw [hj'], he1.mono k1⟩ (w' := w2.putObj lo (.loop { state := if j.isNone then .ready else .done, pending := j, fn, tmps := tmps1, params := ps, assign, body, defers := r }))
        rfl rfl rfl (by simp) (World.putObj_heap_same hlt) (fun m hm => World.putObj_heap_other hm)
      simpa using this
    cases e with
    | normal => obtain ⟨st', q1, q2, q3⟩ := k4; exact fin none st' true q1 q2 q3 rfl
    | ret => obtain ⟨st', q1, q2, q3⟩ := k4; exact fin (some .ret) st' false q1 q2 q3 rfl
    | exit id => obtain ⟨st', q1, q2, q3⟩ := k4; exact fin (some (.exit id)) st' false q1 q2 q3 rfl
    | goto t => exact k4.elim
    | panic ch => exact k4.elim
    | outgrown => exact k4.elim
  | _ => exact g4.elim

/-- What an activation must end with that has ranged over a function. -/
def markD (r : Nat) : Deferred := { target := .collected r, args := #[] }
theorem SW.rangeFunc {g : Operand} {ps : Array Tmp} {assign body : Code} {f : FuncId} {cap : List AV} {σ : Type} {C : σ → List Seg} {Jm : σ → Option Code} {Pre : σ → List AV → Prop} {Y : σ → List AV → σ → Bool → Prop} (st0 : σ) {Lr L1 : List Seg} {End : σ → List Seg → Prop}
    (hg : ev l g = .fn (.func f) [] cap) (hF : HasF P f) (hps : ∀ p, p ∈ ps.toList → p < n) (hpre : ∀ st avs, Pre st avs → Jm st = none ∧ avs.length = ps.size) (h0 : Jm st0 = none)
    (hL : L.flatten.Perm ((C st0).flatten ++ (Lr.flatten ++ L1.flatten)))
    (hround : ∀ lo st avs, Pre st avs → SW P w0 (some lo) n assign (putL ps.toList avs l) [] (C st) (thenQ (fun l1 ds1 L1 => SW P w0 (some lo) n body l1 ds1 L1 (rndQ C Jm (fun st' b => Y st avs st' b))) (fun _ _ _ _ => False)))
    (hit : ∀ lo (S : σ → List Seg), Yc P w0 lo S Pre Y → Ab.Fn P w0 f (.fn (.yield lo) [] [] :: cap) (S st0 ++ Lr) (fun _ L' => ∃ st' Lr', End st' Lr' ∧ L' = S st' ++ Lr'))
    (hk : ∀ r st' Lr', End st' Lr' → match Jm st' with
      | none => Q .normal l (markD r :: ds) (C st' ++ Lr' ++ L1 ++ [[(r, .raw (.deferred (some [])))]])
      | some c => SW P w0 none n c l (markD r :: ds) (C st' ++ Lr' ++ L1 ++ [[(r, .raw (.deferred (some [])))]]) Q) :
    SW P w0 none n (.rangeFunc g ps assign body) l ds L Q := by
  refine ⟨fun w I F a hi he hd => wpIn_rangeFunc fun fn _ => ?_⟩
  have h1 := he.ev g
  rw [hg] at h1
  generalize e1 : a.eval g = gv at h1
  cases h1 with
  | fn f' first cap' u v hn hm hu hw =>
    have hu' : u = #[] := Array.eq_empty_of_size_eq_zero (by simpa using hn)
    subst hu'
    let lo := w.heap.size + 1
    let yv : Value := .func (.yield lo) #[] #[]
    let w1 := (w.alloc (.deferred (some []))).alloc (.loop { state := .ready, pending := none, fn, tmps := a.tmps, params := ps, assign, body, defers := w.heap.size })
    refine ⟨lo, [markD w.heap.size], w1, { target := .fn (.func f) v, args := #[yv] }, w1, f, #[yv] ++ v, w1, run_enterLoop_outer fn a.tmps ps assign body, ?_, (fun _ _ => trivial), hF (#[yv] ++ v) w1, (fun h => by cases h), ?_⟩
    · show (Deferred.ofValue (a.eval g) (#[Operand.const yv].map a.eval)).run P w1 = _
      rw [e1]
      simp [Deferred.ofValue, Act.eval]
    · have hi1 := (hi.alloc (o := .deferred (some [])) (ao := .raw (.deferred (some []))) rfl)
      have hi2 := hi1.alloc (o := .loop { state := .ready, pending := none, fn, tmps := a.tmps, params := ps, assign, body, defers := w.heap.size }) (ao := loopO n l fn ps assign body w.heap.size none) ⟨a.tmps, rfl, he⟩
      have hsz : (w.alloc (.deferred (some []))).heap.size = lo := by simp [lo]
      rw [hsz] at hi2
      have hY := Yc.mk' (P := P) (w0 := w0) (n := n) (l := l) (lo := lo) (r := w.heap.size) (fn := fn) hps hpre (hround lo)
      have hfn := hit lo _ hY
      simp only [h0] at hfn
      have hp : ((lo, loopO n l fn ps assign body w.heap.size none) :: (w.heap.size, AObj.raw (.deferred (some []))) :: (L.flatten ++ F)).Perm
          ((([(lo, loopO n l fn ps assign body w.heap.size none)] :: C st0) ++ Lr).flatten ++ (L1.flatten ++ ((w.heap.size, AObj.raw (.deferred (some []))) :: F))) := by
        simp only [List.cons_append, List.flatten_cons, List.flatten_append, List.nil_append, List.append_assoc]
        refine List.Perm.cons _ ?_
        have p1 : (L.flatten ++ F).Perm ((C st0).flatten ++ (Lr.flatten ++ (L1.flatten ++ F))) := by
          have := List.Perm.append_right F hL
          simpa [List.append_assoc] using this
        refine (List.Perm.cons _ p1).trans ?_
        have p2 : ∀ (x : Nat × AObj) (A B D : HL), (x :: (A ++ (B ++ (D ++ F)))).Perm (A ++ (B ++ (D ++ x :: F))) := by
          intro x A B D
          have := (List.perm_middle (a := x) (l₁ := A ++ (B ++ D)) (l₂ := F)).symm
          simpa [List.append_assoc] using this
        exact p2 _ _ _ _
      have hrel : RelL I (.fn (.yield lo) [] [] :: cap) (#[yv] ++ v) := by
        have a1 : RelL I [AV.fn (.yield lo) [] []] #[yv] := by
          refine ⟨rfl, fun j hj => ?_⟩
          have hj0 : j = 0 := by simpa using hj
          subst hj0
          exact .fn (.yield lo) [] [] #[] #[] rfl rfl (fun j hj => by simp at hj) (fun j hj => by simp at hj)
        exact relL_append a1 ⟨hm, hw⟩
      refine CallsIn.mono ((callsIn_wide (n := 0)).2 (hfn.out w1 I _ _ (hi2.perm hp) hrel)) fun e w' ⟨J, L', g1, g2, g3⟩ => ?_
      rcases g3 with ⟨rv, r, rfl, _, st', Lr', hE, rfl⟩ | ⟨_, _, hx⟩
      · have g2' : Inv w0 w' J ((lo, loopO n l fn ps assign body w.heap.size (Jm st')) :: ((C st').flatten ++ (Lr'.flatten ++ (L1.flatten ++ ((w.heap.size, AObj.raw (.deferred (some []))) :: F))))) := by
          simpa [List.append_assoc] using g2
        obtain ⟨_, o, ho, tmps, rfl, he2⟩ := g2'.own (lo, loopO n l fn ps assign body w.heap.size (Jm st')) (by simp)
        have hend := run_endLoop (P := P) ho (by simp only; split <;> simp)
        have hput := (g2'.putRaw (o := .loop { state := .exhausted, pending := Jm st', fn, tmps, params := ps, assign, body, defers := w.heap.size })).sub (List.sublist_cons_self _ _)
        have hfin : Inv w0 (w'.putObj lo (.loop { state := .exhausted, pending := Jm st', fn, tmps, params := ps, assign, body, defers := w.heap.size })) J ((C st' ++ Lr' ++ L1 ++ [[(w.heap.size, AObj.raw (.deferred (some [])))]]).flatten ++ F) := by
          simpa [List.append_assoc] using hput
        have hkk := hk w.heap.size st' Lr' hE
        refine ⟨_, _, hend, ?_⟩
        have hJ : I.le J := g1
        cases hjm : Jm st' with
        | none =>
          rw [hjm] at hkk
          simp only [hjm] at hfin ⊢
          exact ⟨J, l, _, hJ, he.mono hJ, hfin, by simpa [hd] using hkk⟩
        | some c =>
          rw [hjm] at hkk
          simp only [hjm] at hfin ⊢
          exact wpIn_mono (hkk.out _ J F _ hfin (he.mono hJ) (by simp [hd])) fun e a w hq => hq.up hJ
      · exact hx.elim
end rules
end Ab
