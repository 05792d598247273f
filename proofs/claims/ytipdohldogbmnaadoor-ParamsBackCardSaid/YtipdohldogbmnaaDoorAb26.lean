/- Iterators, told by the rounds that they give; sorting in place. They ask nothing. -/
import Derived.Test.YtipdohldogbmnaaDoorAb25
set_option autoImplicit false
set_option linter.unusedVariables false
set_option linter.unusedSimpArgs false
namespace Ab
open Go Go.RowKit
/-- A function that a range goes over: it gives the rounds of a list, as long as it is asked. -/
structure IterF (P : Program) (w0 : World) (f : FuncId) (cap : List AV) (xs : List (List AV)) : Prop where
  out : ∀ (lo : Nat) {σ : Type} (S : σ → List Seg) (Pre : σ → List AV → Prop) (Y : σ → List AV → σ → Bool → Prop), Yc P w0 lo S Pre Y → ∀ (Iv : Nat → σ → Prop) (Fin : σ → Prop),
    (∀ i st, i < xs.length → Iv i st → Pre st (xs.getD i [])) → (∀ i st st', i < xs.length → Iv i st → Y st (xs.getD i []) st' true → Iv (i + 1) st') →
    (∀ i st st', i < xs.length → Iv i st → Y st (xs.getD i []) st' false → Fin st') → (∀ st, Iv xs.length st → Fin st) →
    ∀ st0, Iv 0 st0 → Ab.Fn P w0 f (.fn (.yield lo) [] [] :: cap) (S st0) (fun _ L' => ∃ st', Fin st' ∧ L' = S st')
instance {σ : Type} (C : σ → List Seg) (Jm : σ → Option Code) (Y : σ → Bool → Prop) : PanicI (rndQ C Jm Y) := ⟨fun ch l l' ds L h => h⟩

theorem flat1 {α : Type} (g : α → AV) (xs : List α) : (xs.map fun x => [g x]).flatten = xs.map g := by
  induction xs with
  | nil => rfl
  | cons x r ih => simp [ih]
/-- An object of one's own becomes another one, and new ones that nobody names are laid. -/
theorem Inv.setG {w0 w w' : World} {I : IMap} {b : Nat} {ao ao' : AObj} {L : HL} (h : Inv w0 w I ((b, ao) :: L)) {o : Obj} (ho : ao'.ok I o)
    (hos : w'.os = w.os) (htape : w'.tape = w.tape) (hout : w'.output = w.output) (hsz : w.heap.size ≤ w'.heap.size)
    (hnew : w'.heap[b]? = some o) (hold : ∀ n, n < w.heap.size → n ≠ b → w'.heap[n]? = w.heap[n]?) : Inv w0 w' I ((b, ao') :: L) := by
  have hge := h.ge (p := (b, ao)) (by simp)
  have hI := (h.own (b, ao) (by simp)).1
  refine ⟨?_, h.base, fun n o' hn => ?_, fun p hp => ?_, ?_⟩
  · exact h.below.trans ⟨hos, htape, hout, hsz, fun k hk => hold k (by have := h.size; omega) (fun e => by subst e; exact absurd hk (by simp at hge; omega))⟩
  · have h1 := h.imm n o' hn
    rw [hold n (Array.getElem?_eq_some_iff.1 h1).1 (fun e => by subst e; simp at hI; rw [hI] at hn; cases hn)]; exact h1
  · rcases List.mem_cons.1 hp with rfl | hp
    · exact ⟨hI, o, hnew, ho⟩
    · obtain ⟨h1, o', h2, h3⟩ := h.own p (List.mem_cons_of_mem _ hp)
      refine ⟨h1, o', ?_, h3⟩
      rw [hold p.1 (Array.getElem?_eq_some_iff.1 h2).1 (fun e => ?_)]; exact h2
      have := h.nd
      rw [List.map_cons, List.nodup_cons] at this
      exact this.1 (List.mem_map.2 ⟨p, hp, e⟩)
  · have := h.nd
    simpa using this

theorem Rdp.to {P : Program} {w0 : World} {n : Nat} {M : List Seg} {l : Env} {g : GOp} {v v' : AV} (h : Rdp P w0 n M l g v) (e : v = v') : Rdp P w0 n M l g v' := e ▸ h
theorem Fn.seg {P : Program} {w0 : World} {f : FuncId} {args : List AV} {L0 L1 : List Seg} {R : AV → List Seg → Prop} {Pn : Value → List Seg → Prop} (h : Ab.Fn P w0 f args L0 R Pn) (e : L0.flatten.Perm L1.flatten) : Ab.Fn P w0 f args L1 R Pn :=
  ⟨fun w I F vals hi hv => h.out w I F vals (hi.perm (List.Perm.append_right F e.symm)) hv⟩
/-- What a function leaves may be let go. -/
theorem Fn.forget {P : Program} {w0 : World} {f : FuncId} {args : List AV} {L0 : List Seg} {R : AV → Prop} {Pn : Value → List Seg → Prop} (h : Ab.Fn P w0 f args L0 (fun r _ => R r) Pn) : Ab.Fn P w0 f args L0 (fun r L' => R r ∧ L' = []) Pn :=
  ⟨fun w I F vals hi hv => (h.out w I F vals hi hv).mono fun e w' ⟨J, L', h1, h2, h3⟩ => h3.elim (fun ⟨v, r, a, b, c⟩ => ⟨J, [], h1, h2.sub (List.sublist_append_right _ _), .inl ⟨v, r, a, b, c, rfl⟩⟩) (fun ⟨v, a, b⟩ => ⟨J, L', h1, h2, .inr ⟨v, a, b⟩⟩)⟩
theorem Fn.forget2 {P : Program} {w0 : World} {f : FuncId} {args : List AV} {L0 : List Seg} {R : AV → Prop} {Pn : Value → Prop} (h : Ab.Fn P w0 f args L0 (fun r _ => R r) (fun v _ => Pn v)) : Ab.Fn P w0 f args L0 (fun r L' => R r ∧ L' = []) (fun v L' => Pn v ∧ L' = []) :=
  ⟨fun w I F vals hi hv => (h.out w I F vals hi hv).mono fun e w' ⟨J, L', h1, h2, h3⟩ => h3.elim (fun ⟨v, r, a, b, c⟩ => ⟨J, [], h1, h2.sub (List.sublist_append_right _ _), .inl ⟨v, r, a, b, c, rfl⟩⟩) (fun ⟨v, a, b⟩ => ⟨J, [], h1, h2.sub (List.sublist_append_right _ _), .inr ⟨v, a, b, rfl⟩⟩)⟩
theorem Fn.sub' {P : Program} {w0 : World} {f : FuncId} {args : List AV} {L0 : List Seg} {r0 : AV} {Pn : Value → List Seg → Prop} (h : Ab.Fn P w0 f args L0 (fun r _ => Sub r r0) Pn) : Ab.Fn P w0 f args L0 (fun r L' => r = r0 ∧ L' = []) Pn :=
  ⟨fun w I F vals hi hv => (h.out w I F vals hi hv).mono fun e w' ⟨J, L', h1, h2, h3⟩ => h3.elim (fun ⟨v, r, a, b, c⟩ => ⟨J, [], h1, h2.sub (List.sublist_append_right _ _), .inl ⟨v, r0, a, c _ _ b, rfl, rfl⟩⟩) (fun ⟨v, a, b⟩ => ⟨J, L', h1, h2, .inr ⟨v, a, b⟩⟩)⟩
section rules
variable {P : Program} {tt : Tab} {w0 : World}
theorem SW.dropH {ro : Option Nat} {n : Nat} {co : Code} {l : Env} {ds : List Deferred} {L2 : List Seg} {x : Seg} {Q : Post} (h : SW P w0 ro n co l ds L2 Q) : SW P w0 ro n co l ds (x :: L2) Q := SW.drop h (by simp [List.flatten_cons])
/-- A place in a slice of one's own of one-cell elements, named by a natural number. -/
theorem Rdp.ixZ {n : Nat} {M : List Seg} {l : Env} {d : Option Tmp} {ty : TypeId} (T : TabOk P tt) {t e : TypeId} {x y : Operand} {i j : TI} {b m c q : Nat} {k : IntKind} (hx : ev l x = .v (.slice (some ⟨b, 0, none⟩) m c)) (hy : ev l y = .v (.int k (q : Nat)))
    (hi : tlook tt t = some i) (hd : i.desc = .slice e) (hj : tlook tt e = some j) (hz : Nat.beq j.size 1 = true) (h1 : q < m) : Rdp P w0 n M l ⟨d, .indexAddr t x y, ty, none⟩ (.v (.pointer (some ⟨b, q, none⟩))) :=
  (Rdp.ixO T hx hy hi hd hj (by omega) (by omega)).to (by rw [Nat.eq_of_beq_eq_true hz]; simp)
theorem Rdp.ixY {n : Nat} {M : List Seg} {l : Env} {d : Option Tmp} {ty : TypeId} (T : TabOk P tt) {t e : TypeId} {x y : Operand} {i j : TI} {b o m c q : Nat} {k : IntKind} (hx : ev l x = .v (.slice (some ⟨b, o, none⟩) m c)) (hy : ev l y = .v (.int k (q : Nat)))
    (hi : tlook tt t = some i) (hd : i.desc = .slice e) (hj : tlook tt e = some j) (hz : Nat.beq j.size 1 = true) (h1 : q < m) : Rdp P w0 n M l ⟨d, .indexAddr t x y, ty, none⟩ (.v (.pointer (some ⟨b, o + q, none⟩))) :=
  (Rdp.ixO T hx hy hi hd hj (by omega) (by omega)).to (by rw [Nat.eq_of_beq_eq_true hz]; simp)
/-- .. of elements of s cells. -/
theorem Rdp.ixS {n : Nat} {M : List Seg} {l : Env} {d : Option Tmp} {ty : TypeId} (T : TabOk P tt) (s : Nat) {t e : TypeId} {x y : Operand} {i j : TI} {b m c q : Nat} {k : IntKind} (hx : ev l x = .v (.slice (some ⟨b, 0, none⟩) m c)) (hy : ev l y = .v (.int k (q : Nat)))
    (hi : tlook tt t = some i) (hd : i.desc = .slice e) (hj : tlook tt e = some j) (hz : Nat.beq j.size s = true) (h1 : q < m) : Rdp P w0 n M l ⟨d, .indexAddr t x y, ty, none⟩ (.v (.pointer (some ⟨b, q * s, none⟩))) :=
  (Rdp.ixO T hx hy hi hd hj (by omega) (by omega)).to (by rw [Nat.eq_of_beq_eq_true hz]; simp)
/-- append to what is empty and has no room: the new slice becomes what nobody changes. -/
theorem SO.appE {ro : Option Nat} {n : Nat} {l : Env} {ds : List Deferred} {L : List Seg} {Q : Post} {gs : List GOp} {ty : TypeId} (T : TabOk P tt) {d : Tmp} {t e tx : TypeId} {i j k : TI} {x y : Operand} {q : Nat} {els : List (List AV)}
    (hx : ev l x = .z) (hi : tlook tt t = some i) (hd : i.desc = .slice e) (hj : tlook tt e = some j) (hy : Sub (ev l y) (.sl j.size q els)) (hk' : tlook tt tx = some k) (hkd : ∃ e2, k.desc = .slice e2)
    (hb2 : Nat.ble j.bytes 512 = true) (hb4 : Nat.ble 1 j.bytes = true) (hb1 : q ≤ 68719476736)
    (hk : SO P w0 ro n gs ((d, .sl j.size q els) :: l) ds L Q) : SO P w0 ro n (⟨some d, .call ⟨.builtin .append, #[x, y], #[t, tx]⟩, ty, none⟩ :: gs) l ds L Q := by
  have h2 := Nat.le_of_ble_eq_true hb2
  have h4 := Nat.le_of_ble_eq_true hb4
  have hbig : q * j.bytes ≤ 70368744177664 := by
    calc q * j.bytes ≤ 68719476736 * 512 := Nat.mul_le_mul hb1 h2
      _ ≤ _ := by omega
  refine SO.valueW rfl (by intro c; simp [GOp.o_mk]) fun w I F ac hiv he => ?_
  have g1 := he.ev x; rw [hx] at g1
  generalize e1 : ac.eval x = xv at g1
  cases g1 with
  | z a =>
    have g2 := hy _ _ (he.ev y)
    generalize e2 : ac.eval y = yv at g2
    have hels := sl_els g2
    obtain ⟨b, cc, o, h1, h2', h3, h4', h5⟩ := sl_cells g2
    subst h1
    have hu := run_underlying T hi w
    rw [hd] at hu
    obtain ⟨e3, hkd⟩ := hkd
    have hu2 := run_underlying T hk' w
    rw [hkd] at hu2
    have hrun : ∀ v w', (Builtin.append_ #[t, tx] ty #[.slice a 0 0, .slice b q cc]).run P w = .ok v w' → (execOp ac.eval (GOp.o ⟨some d, .call ⟨.builtin .append, #[x, y], #[t, tx]⟩, ty, none⟩)).run P w = .ok (.value v) w' := fun v w' h => by
      simp only [GOp.o_mk, execOp, resolve, invoke, builtin, Sem.run_bind, Sem.run_pure, Result.andThen_ok, List.map_toArray, List.map_cons, List.map_nil, e1, e2, h]
    by_cases hq : q = 0
    · subst hq
      have hr : (Builtin.append_ #[t, tx] ty #[.slice a 0 0, .slice b 0 cc]).run P w = .ok (.slice a 0 0) w := by
        have hfc := h5 P w hiv.imm
        have ho : o = #[] := Array.eq_empty_of_size_eq_zero (by rw [h2']; simp)
        subst ho
        cases a <;> simp [Builtin.append_, hu, run_sizeOf T hj, hu2, Builtin.lenOf, hfc, storeCells]
      have hel : els = [] := List.length_eq_zero_iff.1 hels.1
      subst hel
      exact ⟨_, w, I, _, L, hrun _ _ hr, IMap.le_refl I, .sl0 _ _ _, hiv, hk⟩
    · have hinv0 : Inv w0 w I ([] ++ (L.flatten ++ F)) := by simpa using hiv
      obtain ⟨v, w', a', c', s', r1, r2, r3, r4⟩ := append_run T hi hd hj hk' (.inl ⟨e3, hkd⟩) (Buf.nil (e := e) (size := j.size) rfl) hinv0 (x := .slice b q cc) (q := q) (els := els.flatten) (o := o) (by simp [Builtin.lenOf]) h2' h3 h4' (fun w'' hw'' => h5 P w'' hw'') (by rw [Nat.zero_add]; exact hbig) (by omega) (by omega) (by omega) ty
      rw [Nat.zero_add, List.nil_append] at *
      subst r2
      have hr : (Builtin.append_ #[t, tx] ty #[.slice a 0 0, .slice b q cc]).run P w = .ok (.slice a' q c') w' := by
        rw [← r1]
        cases a with
        | none => rfl
        | some ad =>
          have hns := nextslicecap_le q 0 (by omega)
          have hnb : ¬ (281474976710656 < Builtin.nextslicecap q 0 * j.bytes) := by
            have h6 : Builtin.nextslicecap q 0 * j.bytes ≤ (2 * q + 192) * j.bytes := Nat.mul_le_mul_right _ hns
            have h7 : (2 * q + 192) * j.bytes = 2 * (q * j.bytes) + 192 * j.bytes := by rw [Nat.add_mul, Nat.mul_assoc]
            omega
          obtain ⟨info, z', hti, hti1, hti2, hti3⟩ := run_typeInfo T hj w
          have hmax : ¬ (9223372036854775807 < (q : Int) ∧ j.bytes = 0) := by omega
          simp [Builtin.append_, hu, run_sizeOf T hj, hu2, Builtin.lenOf, hq, hti, hti2, hnb, hmax, Builtin.firstCells, loadCells, loadCellsFrom]
      have hBf : Bf e j.size els a' q c' s' := ⟨r3, hels.1, hels.2⟩
      obtain ⟨J, hJ, hi2, hrel⟩ := Bf.frz hBf r4
      exact ⟨_, w', J, _, L, hrun _ _ hr, hJ, hrel, hi2, hk⟩
section guards
variable {ro : Option Nat} {n : Nat} {co c1 c2 : Code} {l : Env} {ds : List Deferred} {L Lx M : List Seg} {Q : Post} {gs : List GOp} {D : List DOp} {rem : List Nat} {e : Option Tmp} {ty t t2 : TypeId} {x y z : Operand} {g : Option Tmp × Bool} {op : Op}
theorem SW.is (h : SW P w0 ro n co l ds L Q) : SW P w0 ro n co l ds L Q := h
theorem SW.isCond (h : SW P w0 ro n (.cond x c1 c2) l ds L Q) : SW P w0 ro n (.cond x c1 c2) l ds L Q := h
theorem SO.is (h : SO P w0 ro n gs l ds L Q) : SO P w0 ro n gs l ds L Q := h
theorem DW.is (h : DW P w0 ro n D M ds Q rem l Lx) : DW P w0 ro n D M ds Q rem l Lx := h
theorem SO.isG (h : SO P w0 ro n (⟨e, op, ty, some g⟩ :: gs) l ds L Q) : SO P w0 ro n (⟨e, op, ty, some g⟩ :: gs) l ds L Q := h
theorem SO.isLoad (h : SO P w0 ro n (⟨e, .load t x, ty, none⟩ :: gs) l ds L Q) : SO P w0 ro n (⟨e, .load t x, ty, none⟩ :: gs) l ds L Q := h
theorem SO.isStore (h : SO P w0 ro n (⟨e, .store t x y, ty, none⟩ :: gs) l ds L Q) : SO P w0 ro n (⟨e, .store t x y, ty, none⟩ :: gs) l ds L Q := h
theorem SO.isCall {c : Call} (h : SO P w0 ro n (⟨e, .call c, ty, none⟩ :: gs) l ds L Q) : SO P w0 ro n (⟨e, .call c, ty, none⟩ :: gs) l ds L Q := h
theorem SO.isBin {b : BinOp} (h : SO P w0 ro n (⟨e, .binOp b t x y t2, ty, none⟩ :: gs) l ds L Q) : SO P w0 ro n (⟨e, .binOp b t x y t2, ty, none⟩ :: gs) l ds L Q := h
theorem SO.isConv (h : SO P w0 ro n (⟨e, .convert t t2 x, ty, none⟩ :: gs) l ds L Q) : SO P w0 ro n (⟨e, .convert t t2 x, ty, none⟩ :: gs) l ds L Q := h
theorem SO.isBS {m : Nat} {ps : Array (Nat × Operand)} (h : SO P w0 ro n (⟨e, .buildSlice t m ps, ty, none⟩ :: gs) l ds L Q) : SO P w0 ro n (⟨e, .buildSlice t m ps, ty, none⟩ :: gs) l ds L Q := h
theorem SO.isIx (h : SO P w0 ro n (⟨e, .indexAddr t x y, ty, none⟩ :: gs) l ds L Q) : SO P w0 ro n (⟨e, .indexAddr t x y, ty, none⟩ :: gs) l ds L Q := h
end guards
/-- Calls that give one value and leave one row of objects. -/
theorem SO.callE {ro : Option Nat} {n : Nat} {l : Env} {ds : List Deferred} {L : List Seg} {Q : Post} {gs : List GOp} {d : Tmp} {ty : TypeId} {f : FuncId} {args : Array Operand} {ts : Array TypeId} {avs : List AV} {L0 L1 L0' : List Seg} {r0 : AV} (hF : HasF P f)
    (hfn : Ab.Fn P w0 f avs L0 (fun r L' => r = r0 ∧ L' = L0')) (hs : Subs (args.toList.map (ev l)) avs) (hsp : Sp L L0 L1)
    (hk : SO P w0 ro n gs ((d, r0) :: l) ds (L0' ++ L1) Q) : SO P w0 ro n (⟨some d, .call ⟨.value (.func f), args, ts⟩, ty, none⟩ :: gs) l ds L Q :=
  SO.call hF hfn hs hsp (fun r L' ⟨h1, h2⟩ => by subst h1; subst h2; exact hk) (fun _ _ h => h.elim)
theorem SO.callCE {ro : Option Nat} {n : Nat} {l : Env} {ds : List Deferred} {L : List Seg} {Q : Post} {gs : List GOp} {d : Tmp} {ty : TypeId} {f : FuncId} {c : Operand} {first cap : List AV} {args : Array Operand} {ts : Array TypeId} {avs : List AV} {L0 L1 L0' : List Seg} {r0 : AV} (hF : HasF P f)
    (hc : ev l c = .fn (.func f) first cap) (hfn : Ab.Fn P w0 f avs L0 (fun r L' => r = r0 ∧ L' = L0')) (hs : Subs (first ++ args.toList.map (ev l) ++ cap) avs) (hsp : Sp L L0 L1)
    (hk : SO P w0 ro n gs ((d, r0) :: l) ds (L0' ++ L1) Q) : SO P w0 ro n (⟨some d, .call ⟨.value c, args, ts⟩, ty, none⟩ :: gs) l ds L Q :=
  SO.callC hF hc hfn hs hsp (fun r L' ⟨h1, h2⟩ => by subst h1; subst h2; exact hk) (fun _ _ h => h.elim)
theorem SO.dropH {ro : Option Nat} {n : Nat} {gs : List GOp} {l : Env} {ds : List Deferred} {L2 : List Seg} {x : Seg} {Q : Post} (h : SO P w0 ro n gs l ds L2 Q) : SO P w0 ro n gs l ds (x :: L2) Q := SO.drop h (by simp [List.flatten_cons])
theorem Sub.ifc (t : TypeId) (v : Value) : Sub (.v (.iface t v)) (.ifc t (.v v)) := fun I x h => by cases h; exact .ifc _ _ _ (.v _)
theorem Sub.ifc0 (t : TypeId) : Sub (.v (.iface t (.agg #[]))) (.ifc t (.agg [])) := fun I x h => by cases h; exact .ifc _ _ _ (.agg _ _ rfl (fun j hj => by simp at hj))
/-- Sorting in place, out of the kit's contract. -/
theorem sort_fn {f : FuncId} {e : Nat} (hc : ∀ (blk off cap : Nat) (zs : List Int) (w : World), Go.Sort.Holds (Value.int .i64) w blk off zs.toArray → blk < w.heap.size → zs.length < 4611686018427387904 →
      Calls P f #[.slice (some ⟨blk, off, none⟩) zs.length cap] w fun e w' => e = .returned (.tuple #[]) ∧ ∃ n os, w' = Go.Sort.grow (Go.Sort.putRow (Value.int .i64) (Go.Sort.ahead w n) blk off (zs.mergeSort fun x y => decide (x ≤ y)).toArray) os)
    (hn : ∀ (p : Option Addr) (cap : Nat) (w : World), Calls P f #[.slice p 0 cap] w fun e w' => e = .returned (.tuple #[]) ∧ w' = w)
    (xs : List Int) {a : Option Addr} {m c : Nat} {s : Seg} (hB : Bf e 1 (xs.map fun x => [AV.v (.int .i64 x)]) a m c s) (hlen : xs.length < 4611686018427387904) :
    Ab.Fn P w0 f [.v (.slice a m c)] [s] (fun r L' => r = .tup [] ∧ ∃ s', L' = [s'] ∧ Bf e 1 ((xs.mergeSort fun x y => decide (x ≤ y)).map fun x => [AV.v (.int .i64 x)]) a m c s') := by
  refine ⟨fun w I F vals hi hv => ?_⟩
  have hv0 : vals = #[.slice a m c] := by
    have h0 := hv.2 0 (by simp)
    simp only [List.getD_cons_zero] at h0
    have hs : vals.size = 1 := hv.1
    have hsz : vals = #[vals.getD 0 undef] := by
      apply Array.ext
      · simp [hs]
      · intro i h1 h2
        have : i = 0 := by omega
        subst this
        simp [Array.getD_eq_getD_getElem?, hs]
    generalize vals.getD 0 undef = x at h0 hsz
    cases h0; exact hsz
  subst hv0
  have hlm : (xs.map fun x => [AV.v (.int .i64 x)]).length = m := hB.len
  have hxm : xs.length = m := by simpa using hlm
  rcases hB.cases' with ⟨rfl, rfl, rfl, rfl, hx⟩ | ⟨b, junk, rfl, rfl, hj, hmc⟩
  · have hx0 : xs = [] := List.length_eq_zero_iff.1 hxm
    subst hx0
    refine (hn none 0 w).mono fun e' w' ⟨h1, h2⟩ => ?_
    subst h2
    refine ⟨I, [[]], IMap.le_refl I, by simpa using hi, .inl ⟨.tuple #[], .tup [], h1, .tup _ _ rfl (fun j hj => by simp at hj), rfl, [], rfl, by simpa using hB⟩⟩
  · have hi' : Inv w0 w I ((b, .row e ((xs.map fun x => [AV.v (.int .i64 x)]).flatten ++ junk)) :: F) := by simpa using hi
    obtain ⟨r, lo, hi2, hb, hc2, hf, hcell, hone⟩ := hi'.row (b := b) (e := e) (cs := (xs.map fun x => [AV.v (.int .i64 x)]).flatten ++ junk) (by simp)
    have hfl := flat1 (fun x : Int => AV.v (.int .i64 x)) xs
    have hget : ∀ j, (hj : j < xs.length) → r.getD j undef = .int .i64 xs[j] := fun j hj => by
      have h1 := hc2.2 j (by rw [hfl]; simp; omega)
      rw [hfl, List.getD_eq_getElem?_getD, List.getElem?_append_left (by simpa using hj), List.getElem?_map, List.getElem?_eq_getElem hj] at h1
      simp only [Option.map_some, Option.getD_some] at h1
      generalize r.getD j undef = y at h1
      cases h1; rfl
    have hlr : xs.length ≤ r.size := by have := hc2.1; rw [hfl] at this; simp at this; omega
    have hH : Go.Sort.Holds (Value.int .i64) w b 0 xs.toArray := by
      intro j hj
      have hj' : j < xs.length := by simpa using hj
      have e1 : xs.toArray[j]! = xs[j] := by simp [getElem!_pos, hj']
      refine ⟨?_, ?_⟩
      · rw [Nat.zero_add, hcell j (by rw [hfl]; simp; omega), hget j hj', e1]
      · unfold World.frozen?
        rw [hb]
        simp only [Bool.and_eq_false_imp, decide_eq_true_eq, decide_eq_false_iff_not]
        rw [hfl] at hf; simp at hf; omega
    have hlt : b < w.heap.size := (Array.getElem?_eq_some_iff.1 hb).1
    have hcall := hc b 0 c xs w hH hlt hlen
    rw [hxm] at hcall
    refine hcall.mono fun e' w' ⟨h1, q, os, h2⟩ => ?_
    subst h1
    generalize hys : (xs.mergeSort fun x y => decide (x ≤ y)) = ys at *
    have hyl : ys.length = xs.length := by rw [← hys]; exact List.length_mergeSort _
    have hheapb : w'.heap[b]? = some (.cells (Go.Sort.putCells (Value.int .i64) 0 ys.toArray r) e (lo, hi2)) := by
      subst h2
      have hlt2 : b < (Go.Sort.putRow (Value.int .i64) (Go.Sort.ahead w q) b 0 ys.toArray).heap.size := by simpa using hlt
      rw [Go.Sort.heap_grow_old _ _ hlt2]
      simp only [Go.Sort.putRow, Go.Sort.mapBlock, Go.Sort.heap_ahead, Array.getElem?_modify, hb]
      simp only [if_true, Option.map_some]
      rfl
    have hold : ∀ k, k < w.heap.size → k ≠ b → w'.heap[k]? = w.heap[k]? := by
      intro k hk hkb
      subst h2
      have hlt2 : k < (Go.Sort.putRow (Value.int .i64) (Go.Sort.ahead w q) b 0 ys.toArray).heap.size := by simpa using hk
      rw [Go.Sort.heap_grow_old _ _ hlt2]
      simp only [Go.Sort.putRow, Go.Sort.mapBlock, Go.Sort.heap_ahead, Array.getElem?_modify]
      rw [if_neg (fun e => hkb e.symm)]
    have hsz : w.heap.size ≤ w'.heap.size := by subst h2; simp
    have hpc : ∀ k, (Go.Sort.putCells (Value.int .i64) 0 ys.toArray r).getD k undef = if h : k < ys.length then .int .i64 ys[k] else r.getD k undef := by
      intro k
      rw [Array.getD_eq_getD_getElem?, Go.Sort.putCells, Array.getElem?_mapIdx]
      by_cases hk : k < ys.length
      · have hkr : k < r.size := by omega
        rw [Array.getElem?_eq_getElem hkr, dif_pos hk]
        simp [hk, getElem!_pos]
      · rw [dif_neg hk]
        cases hr : r[k]? with
        | none => simp [Array.getD_eq_getD_getElem?, hr]
        | some y => simp [Array.getD_eq_getD_getElem?, hr, hk]
    have hfl2 := flat1 (fun x : Int => AV.v (.int .i64 x)) ys
    have hrow : (AObj.row e ((ys.map fun x => [AV.v (.int .i64 x)]).flatten ++ junk)).ok I (.cells (Go.Sort.putCells (Value.int .i64) 0 ys.toArray r) e (lo, hi2)) := by
      refine ⟨_, lo, hi2, rfl, ⟨?_, fun k hk => ?_⟩, ?_, fun k hk => ?_⟩
      · have := hc2.1
        rw [hfl] at this
        rw [hfl2]
        simp [Go.Sort.putCells] at this ⊢
        omega
      · rw [hpc, hfl2, List.getD_eq_getElem?_getD]
        by_cases hky : k < ys.length
        · rw [dif_pos hky, List.getElem?_append_left (by simpa using hky), List.getElem?_map, List.getElem?_eq_getElem hky]
          exact .v _
        · rw [dif_neg hky, List.getElem?_append_right (by simp; omega)]
          have h1 := hc2.2 k (by rw [hfl2] at hk; rw [hfl]; simp at hk ⊢; omega)
          rw [hfl, List.getD_eq_getElem?_getD, List.getElem?_append_right (by simp; omega)] at h1
          simp only [List.length_map] at h1 ⊢
          rw [hyl]; exact h1
      · rw [hfl2]; rw [hfl] at hf; simp at hf ⊢; omega
      · rw [hpc]
        by_cases hky : k < ys.length
        · rw [dif_pos hky]; rfl
        · rw [dif_neg hky]
          exact hone k (by rw [hfl2] at hk; rw [hfl]; simp at hk ⊢; omega)
    have hinv := Inv.setG hi' hrow (w' := w') (by subst h2; rfl) (by subst h2; rfl) (by subst h2; rfl) hsz hheapb hold
    refine ⟨I, [[(b, .row e ((ys.map fun x => [AV.v (.int .i64 x)]).flatten ++ junk))]], IMap.le_refl I, by simpa using hinv, .inl ⟨.tuple #[], .tup [], rfl, .tup _ _ rfl (fun j hj => by simp at hj), rfl, _, rfl, ?_⟩⟩
    exact Bf.mk' (by simp; omega) (fun x hx => by obtain ⟨y, _, rfl⟩ := List.mem_map.1 hx; rfl) hj hmc
end rules
end Ab
