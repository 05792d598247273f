/- Why the function that works out plain operations is right; a row of them in one step. It asks that a table of types is the program's. -/
import Derived.Test.YtipdohldogbmnaaDoorAb3
set_option autoImplicit false
set_option linter.unusedVariables false
set_option linter.unusedSimpArgs false
namespace Ab
open Go Go.RowKit

theorem map_rel {I : IMap} {n : Nat} {a : Act} {l : Env} (he : EnvOk I n a.tmps l) (xs : Array Operand) : RelL I (xs.toList.map (ev l)) (xs.map a.eval) := by
  refine ⟨by simp, fun j hj => ?_⟩
  have hj' : j < xs.size := by simpa using hj
  rw [List.getD_eq_getElem?_getD, Array.getD_eq_getD_getElem?]
  simp only [List.getElem?_map, Array.getElem?_toList, Array.getElem?_map]
  rw [Array.getElem?_eq_getElem hj']
  exact he.ev _
theorem rel_getElem {I : IMap} {xs : List AV} {vs : Array Value} (h : RelL I xs vs) {i : Nat} {x : AV} (hx : xs[i]? = some x) : ∃ v, vs[i]? = some v ∧ Rel I x v := by
  have hi : i < xs.length := (List.getElem?_eq_some_iff.1 hx).1
  have := h.2 i hi
  rw [List.getD_eq_getElem?_getD, Array.getD_eq_getD_getElem?, hx] at this
  have hv : i < vs.size := by rw [h.1]; exact hi
  rw [Array.getElem?_eq_getElem hv] at this ⊢
  exact ⟨_, rfl, this⟩

section
variable {P : Program} {tt : Tab} (T : TabOk P tt) {I : IMap}
include T
theorem fieldP_ok {t : TypeId} {f off ft : Nat} {j : TI} (h : fieldP tt t f = some (off, ft, j)) (w : World) :
    ∃ fs fd, (underlying t).run P w = .ok (.struct fs) w ∧ fs[f]? = some fd ∧ fd.offset = off ∧ fd.type = ft ∧ tlook tt ft = some j := by
  unfold fieldP at h
  split at h
  · rename_i i hi
    have hu := run_underlying T hi w
    split at h
    · rename_i fs hd
      split at h
      · rename_i fd hfd
        split at h
        · rename_i j' hj
          cases h
          exact ⟨fs, fd, by rw [hu, hd], hfd, rfl, rfl, hj⟩
        · cases h
      · cases h
    · cases h
  · cases h

theorem partA_ok {ft : Nat} {j : TI} (hj : tlook tt ft = some j) {xs : List AV} {vs : Array Value} (hx : RelL I xs vs) {off : Nat} {av : AV} (h : partA j xs off = some av) (hle : off + j.size ≤ xs.length) (w : World) :
    ∃ v, (part ft vs off).run P w = .ok v w ∧ Rel I av v := by
  unfold partA at h
  unfold part
  simp only [Sem.run_bind, run_isAgg T hj, Result.andThen_ok]
  cases hd : aggD j.desc with
  | true =>
    rw [hd] at h
    simp only [cond_true, Option.some.injEq] at h
    subst h
    refine ⟨.agg (vs.extract off (off + j.size)), by simp [run_sizeOf T hj], ?_⟩
    refine .agg _ _ ?_ fun k hk => ?_
    · have := hx.1; simp; omega
    · have hk' : k < j.size := by simp at hk; omega
      have := hx.2 (off + k) (by omega)
      rw [List.getD_eq_getElem?_getD, Array.getD_eq_getD_getElem?] at this ⊢
      rw [List.getElem?_take, List.getElem?_drop, if_pos hk']
      have e : (vs.extract off (off + j.size))[k]? = vs[off + k]? := by
        have := hx.1
        rw [Array.getElem?_extract]; simp; omega
      rw [e]; exact this
  | false =>
    rw [hd] at h
    simp only [cond_false] at h
    obtain ⟨v, hv, hr⟩ := rel_getElem hx h
    exact ⟨v, by simp [hv], hr⟩

theorem places_run {fs : Array Field} {ps : List (Nat × Nat)} (h : placesP tt fs.toList = some ps) (w : World) :
    (fs.mapM fun f => do pure (f.offset, ← Go.sizeOf f.type) : Sem (Array (Nat × Nat))).run P w = .ok ps.toArray w := by
  have key : ∀ (l : List Field) (ps : List (Nat × Nat)), placesP tt l = some ps → (l.mapM fun f => do pure (f.offset, ← Go.sizeOf f.type) : Sem (List (Nat × Nat))).run P w = .ok ps w := by
    intro l
    induction l with
    | nil => intro ps h; cases h; rfl
    | cons f r ih =>
      intro ps h
      simp only [placesP] at h
      split at h
      · rename_i j ps' hj hp
        cases h
        rw [List.mapM_cons]
        simp only [Sem.run_bind, run_sizeOf T hj, Result.andThen_ok, Sem.run_pure, ih _ hp]
      · cases h
  rw [Array.mapM_eq_mapM_toList]
  simp only [Sem.run_map, key _ _ h, Result.andThen_ok]
theorem evalP_ok {n : Nat} {l : Env} {o : Oper} {av : AV} {a : Act} (he : EnvOk I n a.tmps l) (h : evalP tt l o.op = some av) (w : World) :
    (∀ c, o.op ≠ .defer c) ∧ ∃ x, (execOp a.eval o).run P w = .ok (.value x) w ∧ Rel I av x := by
  obtain ⟨dst, op, type, pos, after, guard⟩ := o
  simp only at h
  cases op with
  | move x => cases h; exact ⟨by simp, _, rfl, he.ev x⟩
  | assign x => cases h; exact ⟨by simp, _, rfl, he.ev x⟩
  | pick c x y =>
    refine ⟨by simp, ?_⟩
    simp only [evalP] at h
    have hr := he.ev c
    generalize hc : a.eval c = cv at hr
    split at h
    · rename_i hb
      cases h; rw [hb] at hr; cases hr
      exact ⟨_, by simp [execOp, hc, asBool], he.ev x⟩
    · rename_i hb
      cases h; rw [hb] at hr; cases hr
      exact ⟨_, by simp [execOp, hc, asBool], he.ev y⟩
    · cases h
  | binOp b t x y yt =>
    refine ⟨by simp, ?_⟩
    obtain ⟨r, h1, h2⟩ := binP_ok T (he.ev x) (he.ev y) h w
    refine ⟨r, ?_, h2⟩
    simp only [execOp]
    rw [Sem.run_bind, h1]; rfl
  | unOp u t x =>
    refine ⟨by simp, ?_⟩
    cases u <;> simp only [evalP, reduceCtorEq] at h
    split at h
    · rename_i b hb
      cases h
      have hr := he.ev x
      rw [hb] at hr
      generalize hx : a.eval x = xv at hr
      cases hr
      exact ⟨.bool (!b), by simp [execOp, hx, Op.unary], .v _⟩
    · cases h
  | extract x i =>
    refine ⟨by simp, ?_⟩
    simp only [evalP] at h
    split at h
    · rename_i xs hb
      have hr := he.ev x
      rw [hb] at hr
      generalize hx : a.eval x = xv at hr
      cases hr with
      | tup xs vs h1 h2 =>
        obtain ⟨v, hv, hr⟩ := rel_getElem ⟨h1, h2⟩ h
        exact ⟨v, by simp [execOp, hx, Instr.extract, hv], hr⟩
    · cases h
  | makeFunc f first cap =>
    simp only [evalP, forceA_eq, Option.some.injEq] at h
    subst h
    have h1 := map_rel he first
    have h2 := map_rel he cap
    exact ⟨by simp, _, rfl, .fn _ _ _ _ _ h1.1 h2.1 h1.2 h2.2⟩
  | makeInterface t x =>
    refine ⟨by simp, ?_⟩
    simp only [evalP] at h
    split at h
    · cases h
    · rename_i i hne hi
      cases h
      refine ⟨.iface t (a.eval x), ?_, .ifc _ _ _ (he.ev x)⟩
      have hu := run_underlying T hi w
      simp only [execOp, Instr.makeInterface, Sem.run_bind, hu, Result.andThen_ok]
      cases hd : i.desc with
      | interface ms =>
        obtain ⟨d, s, b, z⟩ := i
        simp only at hd
        subst hd
        exact absurd rfl (hne _ _ _ _)
      | _ => rfl
    · cases h
  | nilCheck x =>
    refine ⟨by simp, ?_⟩
    simp only [evalP] at h
    have hr := he.ev x
    generalize hx : a.eval x = xv at hr
    split at h
    · rename_i ad hb
      cases h
      rw [hb] at hr; cases hr
      exact ⟨_, by simp [execOp, hx], .v _⟩
    · rename_i xs hb
      cases h
      rw [hb] at hr
      cases hr with
      | ref xs b o y h1 h2 => exact ⟨_, by simp [execOp, hx], .ref _ _ _ _ h1 h2⟩
    · cases h
  | fieldAddr t x f =>
    refine ⟨by simp, ?_⟩
    simp only [evalP] at h
    split at h
    · rename_i off ft j hf
      obtain ⟨fs, fd, hu, hfd, ho, ht, hj⟩ := fieldP_ok T hf w
      subst ho; subst ht
      cases hz : Nat.beq j.size 0 with
      | true => rw [hz] at h; cases h
      | false =>
        rw [hz] at h
        simp only [cond_false] at h
        have hne : ¬ j.size = 0 := fun e => by rw [e] at hz; cases hz
        have hr := he.ev x
        generalize hx : a.eval x = xv at hr
        split at h
        · rename_i b o hb
          rw [forceN_eq] at h
          cases h
          rw [hb] at hr; cases hr
          refine ⟨.pointer (some ⟨b, o + fd.offset, none⟩), ?_, .v _⟩
          simp only [execOp, Instr.fieldAt, Sem.run_bind, hu, Result.andThen_ok, hfd, hx, Instr.sureAddr, fieldPlace, run_sizeOf T hj, Sem.run_pure, hne, if_false, Addr.add]
          by_cases h0 : fd.offset = 0 <;> simp [h0]
        · rename_i xs hb
          cases h
          rw [hb] at hr
          cases hr with
          | ref xs b o y h1 h2 =>
            refine ⟨.pointer (some ⟨b, o + fd.offset, none⟩), ?_, ?_⟩
            · simp only [execOp, Instr.fieldAt, Sem.run_bind, hu, Result.andThen_ok, hfd, hx, Instr.sureAddr, fieldPlace, run_sizeOf T hj, Sem.run_pure, hne, if_false, Addr.add]
              by_cases h0 : fd.offset = 0 <;> simp [h0]
            · refine .ref _ _ _ (fun k => y (fd.offset + k)) (fun k hk => ?_) (fun k hk => ?_)
              · have := h1 (fd.offset + k) (by simp at hk; omega)
                rwa [← Nat.add_assoc] at this
              · have := h2 (fd.offset + k) (by simp at hk; omega)
                rw [List.getD_eq_getElem?_getD] at this ⊢
                rw [List.getElem?_drop]; exact this
        · cases h
    · cases h
  | field t x f =>
    refine ⟨by simp, ?_⟩
    simp only [evalP] at h
    split at h
    · rename_i off ft j xs hf hb
      obtain ⟨fs, fd, hu, hfd, ho, ht, hj⟩ := fieldP_ok T hf w
      subst ho; subst ht
      have hr := he.ev x
      rw [hb] at hr
      generalize hx : a.eval x = xv at hr
      cases hr with
      | agg xs vs h1 h2 =>
        cases hz : Nat.ble (fd.offset + j.size) xs.length with
        | false => rw [hz] at h; cases h
        | true =>
          rw [hz] at h
          obtain ⟨v, hv, hr⟩ := partA_ok T hj ⟨h1, h2⟩ h (Nat.le_of_ble_eq_true hz) w
          exact ⟨v, by simp [execOp, Instr.field, hu, hfd, hx, asAgg, hv], hr⟩
    · cases h
  | build t parts =>
    refine ⟨by simp, ?_⟩
    simp only [evalP] at h
    split at h
    · rename_i i hi
      have hu := run_underlying T hi w
      obtain ⟨z, hz, hz1, hz2, hz3⟩ := run_zeroValue T hi w
      have hz0 := hz1.rel I
      have hps : ∀ k, k < (parts.toList.map fun p => (p.1, ev l p.2)).length → ((parts.toList.map fun p => (p.1, ev l p.2)).getD k (0, .any)).1 = ((parts.map fun p => (p.1, a.eval p.2)).toList.getD k (0, undef)).1 ∧
          Rel I ((parts.toList.map fun p => (p.1, ev l p.2)).getD k (0, .any)).2 ((parts.map fun p => (p.1, a.eval p.2)).toList.getD k (0, undef)).2 := by
        intro k hk
        have hk' : k < parts.size := by simpa using hk
        simp only [List.getD_eq_getElem?_getD, List.getElem?_map, Array.toList_map, Array.getElem?_toList]
        rw [Array.getElem?_eq_getElem hk']
        exact ⟨rfl, he.ev _⟩
      split at h
      · rename_i fs hd
        rw [hd] at hu
        split at h
        · rename_i ps hp
          obtain ⟨out, hfl, rfl⟩ := fillK_ok _ _ _ h
          obtain ⟨o, ho, hro⟩ := fill_ok (fun k => ps[k]?) _ (parts.map fun p => (p.1, a.eval p.2)).toList _ _ _ hz0 (by simp) hps hfl
          refine ⟨.agg o, ?_, .agg _ _ hro.1 hro.2⟩
          have hpl := places_run T hp w
          have e2 : (fun x : Nat => ps.toArray[x]?) = fun k => ps[k]? := by funext k; simp
          simp only [execOp, Instr.build, Sem.run_bind, hz, Result.andThen_ok, hu, hpl, Sem.run_pure, e2, ho]
        · cases h
      · rename_i m e hd
        rw [hd] at hu
        split at h
        · rename_i j hj
          obtain ⟨out, hfl, rfl⟩ := fillK_ok _ _ _ h
          obtain ⟨o, ho, hro⟩ := fill_ok (fun k => some (k * j.size, j.size)) _ (parts.map fun p => (p.1, a.eval p.2)).toList _ _ _ hz0 (by simp) hps hfl
          refine ⟨.agg o, ?_, .agg _ _ hro.1 hro.2⟩
          simp only [execOp, Instr.build, Sem.run_bind, hz, Result.andThen_ok, hu, run_sizeOf T hj, Sem.run_pure, ho]
        · cases h
      · cases h
    · cases h
  | call c =>
    refine ⟨by simp, ?_⟩
    obtain ⟨callee, args, ts⟩ := c
    cases callee with
    | value f => cases h
    | invoke r m => cases h
    | builtin b =>
      cases b <;> simp only [evalP, reduceCtorEq] at h
      split at h
      · rename_i x t hx ht
        split at h
        · rename_i i hi
          have hu := run_underlying T hi w
          have hr := he.ev x
          have hargs : (args.map a.eval)[0]? = some (a.eval x) := by simp [hx]
          have hrun : ∀ v, (Builtin.len_ ts type (args.map a.eval)).run P w = .ok v w → (execOp a.eval ⟨dst, .call ⟨.builtin .len, args, ts⟩, type, pos, after, guard⟩).run P w = .ok (.value v) w := by
            intro v hv
            simp [execOp, resolve, invoke, builtin, hv]
          generalize hxv : a.eval x = xv at hr hargs
          split at h
          · rename_i e y hd
            rw [hd] at hu
            cases hl : lenP (ev l x) with
            | none => rw [hl] at h; cases h
            | some k =>
              rw [hl] at h; cases h
              refine ⟨.int .i64 k, hrun _ ?_, .v _⟩
              unfold lenP at hl
              split at hl <;> cases hl
              · rename_i hb
                rw [hb] at hr
                cases hr <;> simp [Builtin.len_, ht, hargs, hu, goInt]
              · rename_i hb
                rw [hb] at hr
                cases hr; simp [Builtin.len_, ht, hargs, hu, goInt]
              · rename_i hb
                rw [hb] at hr
                cases hr; simp [Builtin.len_, ht, hargs, hu, goInt]
          · rename_i s hd hb
            cases h
            rw [hd] at hu
            rw [hb] at hr; cases hr
            exact ⟨.int .i64 s.size, hrun _ (by simp [Builtin.len_, ht, hargs, hu, goInt]), .v _⟩
          · rename_i y k e hd
            cases h
            rw [hd] at hu
            exact ⟨.int .i64 k, hrun _ (by simp [Builtin.len_, ht, hargs, hu, goInt]), .v _⟩
          · cases h
        · cases h
      · cases h
  | typeAssert x xt asserted ok =>
    refine ⟨by simp, ?_⟩
    cases ok <;> simp only [evalP, reduceCtorEq] at h
    split at h
    · rename_i i hi
      have hu := run_underlying T hi w
      split at h
      · cases h
      · rename_i hni
        split at h
        · rename_i t y hb
          cases hz : Nat.beq t asserted with
          | false => rw [hz] at h; cases h
          | true =>
            rw [hz] at h; cases h
            have := Nat.eq_of_beq_eq_true hz
            subst this
            have hr := he.ev x
            rw [hb] at hr
            generalize hxv : a.eval x = xv at hr
            cases hr with
            | ifc t y v hy =>
              refine ⟨.tuple #[v, .bool true], ?_, ?_⟩
              · simp only [execOp, Instr.typeAssert, Sem.run_bind, hu, Result.andThen_ok, hxv]
                cases hd : i.desc with
                | interface ms => exact absurd hd (hni ms)
                | _ => simp
              · refine .tup _ _ rfl fun j hj => ?_
                match j with
                | 0 => exact hy
                | 1 => exact .v _
        · cases h
    · cases h
  | _ => cases h
end
end Ab
