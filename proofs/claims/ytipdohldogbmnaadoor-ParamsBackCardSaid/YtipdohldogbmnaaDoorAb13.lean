/- The rule for a region that draws its order. It asks that the program ranges over all orders. -/
import Derived.Test.YtipdohldogbmnaaDoorAb12
set_option autoImplicit false
set_option linter.unusedVariables false
set_option linter.unusedSimpArgs false
namespace Ab
open Go Go.RowKit

/-! ### What an operation gives hangs on the slots that it looks at -/
theorem evalP_congr {tt : Tab} {l l' : Env} (o : Op) (h : ∀ x, x ∈ o.operands.toList → ev l x = ev l' x) : evalP tt l o = evalP tt l' o := by
  have pairs : ∀ ps : List (Nat × Operand), (∀ x, x ∈ ps.map (·.2) → ev l x = ev l' x) → (ps.map fun (i, x) => (i, ev l x)) = (ps.map fun (i, x) => (i, ev l' x)) := fun ps hp =>
    List.map_congr_left fun p hm => by
      obtain ⟨i, x⟩ := p
      simp only [hp x (List.mem_map.2 ⟨(i, x), hm, rfl⟩)]
  cases o with
  | move x => simp only [evalP]; rw [h x (by simp [Op.operands])]
  | assign x => simp only [evalP]; rw [h x (by simp [Op.operands])]
  | pick c x y => simp only [evalP]; rw [h c (by simp [Op.operands]), h x (by simp [Op.operands]), h y (by simp [Op.operands])]
  | binOp b t x y yt => simp only [evalP]; rw [h x (by simp [Op.operands]), h y (by simp [Op.operands])]
  | unOp u t x => cases u <;> simp only [evalP]; rw [h x (by simp [Op.operands])]
  | extract x i => simp only [evalP]; rw [h x (by simp [Op.operands])]
  | makeFunc f a b =>
    simp only [evalP, forceA_eq]
    rw [List.map_congr_left (l := a.toList) (g := ev l') (fun x hx => h x (by simp only [Op.operands, Array.toList_append, List.mem_append]; exact .inl hx)),
      List.map_congr_left (l := b.toList) (g := ev l') (fun x hx => h x (by simp only [Op.operands, Array.toList_append, List.mem_append]; exact .inr hx))]
  | makeInterface t x => simp only [evalP]; rw [h x (by simp [Op.operands])]
  | nilCheck x => simp only [evalP]; rw [h x (by simp [Op.operands])]
  | fieldAddr t x f => simp only [evalP]; rw [h x (by simp [Op.operands])]
  | field t x f => simp only [evalP]; rw [h x (by simp [Op.operands])]
  | build t ps =>
    simp only [evalP]
    rw [pairs ps.toList (fun x hx => h x (by simpa [Op.operands] using hx))]
  | call c =>
    obtain ⟨callee, args, ts⟩ := c
    cases callee with
    | value f => rfl
    | invoke r m => rfl
    | builtin b =>
      cases b <;> try rfl
      simp only [evalP]
      split
      · rename_i x t hx ht
        rw [h x (by
          have : x ∈ args := Array.mem_of_getElem? hx
          simp only [Op.operands, Call.operands, Array.toList_append, List.mem_append]
          exact .inr (Array.mem_toList_iff.2 this))]
      · rfl
  | typeAssert x xt a ok => cases ok <;> simp only [evalP]; rw [h x (by simp [Op.operands])]
  | _ => rfl

/-- The slots k of a list agree with what the memory holds. -/
def EnvOn (I : IMap) (n : Nat) (tmps : Array Value) (l : Env) (ks : List Nat) : Prop := tmps.size = n ∧ ∀ k, k ∈ ks → Rel I (lk l k) (tmps.getD k undef)
theorem EnvOk.on {I : IMap} {n : Nat} {tmps : Array Value} {l : Env} (h : EnvOk I n tmps l) (ks : List Nat) : EnvOn I n tmps l ks := ⟨h.1, fun k _ => h.2 k⟩
def only (l : Env) (ks : List Nat) : Env := ks.map fun k => (k, lk l k)
theorem lk_only (l : Env) (ks : List Nat) {k : Nat} (h : k ∈ ks) : lk (only l ks) k = lk l k := by
  induction ks with
  | nil => simp at h
  | cons a r ih =>
    simp only [only, List.map_cons, lk]
    cases hb : Nat.beq a k with
    | true =>
      have := Nat.eq_of_beq_eq_true hb
      subst this; rfl
    | false =>
      rcases List.mem_cons.1 h with rfl | h
      · simp at hb
      · exact ih h
theorem lk_only_not (l : Env) (ks : List Nat) {k : Nat} (h : k ∉ ks) : lk (only l ks) k = .any := by
  induction ks with
  | nil => rfl
  | cons a r ih =>
    simp only [only, List.map_cons, lk]
    cases hb : Nat.beq a k with
    | true =>
      have := Nat.eq_of_beq_eq_true hb
      subst this; simp at h
    | false => exact ih (fun hm => h (List.mem_cons_of_mem _ hm))
theorem EnvOn.ok {I : IMap} {n : Nat} {tmps : Array Value} {l : Env} {ks : List Nat} (h : EnvOn I n tmps l ks) : EnvOk I n tmps (only l ks) := by
  refine ⟨h.1, fun k => ?_⟩
  by_cases hk : k ∈ ks
  · rw [lk_only l ks hk]; exact h.2 k hk
  · rw [lk_only_not l ks hk]; exact .any _

section
variable (P : Program) (w0 : World) (n : Nat)
/-- An operation that reads: what it gives, as long as M stands. -/
def Rd (M : List Seg) (l : Env) (g : GOp) (v : AV) : Prop :=
  ∀ (w : World) (I : IMap) (F : HL) (a : Act), Inv w0 w I (M.flatten ++ F) → EnvOn I n a.tmps l (looks g) →
    ∃ x w', ((wantedG g a.tmps = true ∧ (execOp a.eval g.o).run P w = .ok (.value x) w') ∨ (wantedG g a.tmps = false ∧ x = undef ∧ w' = w)) ∧ Rel I v x ∧ ∀ L : HL, Inv w0 w I L → Inv w0 w' I L
end
section
variable {P : Program} {tt : Tab} {w0 : World} {ro : Option Nat} {n : Nat}

theorem Rd.pure (T : TabOk P tt) {M : List Seg} {l : Env} {d : Option Tmp} {o : Op} {t : TypeId} {v : AV} (h : evalP tt l o = some v) : Rd P w0 n M l ⟨d, o, t, none⟩ v := by
  intro w I F a hi he
  have hc : evalP tt (only l (looks ⟨d, o, t, none⟩)) o = some v := by
    rw [← h]
    refine evalP_congr o fun x hx => ?_
    cases x <;> try rfl
    rename_i k
    exact lk_only l _ (by simp [looks]; exact mem_tmpsOf hx)
  obtain ⟨_, x, h1, h2⟩ := evalP_ok (o := ⟨d, o, t, "", #[], none⟩) T he.ok hc w
  exact ⟨x, w, .inl ⟨rfl, h1⟩, h2, fun _ h => h⟩
theorem Rd.skip {M : List Seg} {l : Env} {e : Option Tmp} {o : Op} {t : TypeId} {d : Nat} {b : Bool} (hb : lk l d = .v (.bool b)) : Rd P w0 n M l ⟨e, o, t, some (some d, !b)⟩ uV := by
  intro w I F a hi he
  have hok := he.ok
  have hl : lk (only l (looks ⟨e, o, t, some (some d, !b)⟩)) d = .v (.bool b) := by rw [lk_only _ _ (by simp [looks])]; exact hb
  have hv := guard_val hok hl
  exact ⟨undef, w, .inr ⟨by cases b <;> simp [wantedG, hv], rfl, rfl⟩, .v _, fun _ h => h⟩
theorem Rd.skipU {M : List Seg} {l : Env} {e : Option Tmp} {o : Op} {t : TypeId} {d : Nat} {b : Bool} {u : Array Value} (hb : lk l d = .v (.tuple u)) : Rd P w0 n M l ⟨e, o, t, some (some d, b)⟩ uV := by
  intro w I F a hi he
  have hv := he.2 d (by simp [looks])
  rw [hb] at hv
  refine ⟨undef, w, .inr ⟨?_, rfl, rfl⟩, .v _, fun _ h => h⟩
  generalize hx : a.tmps.getD d undef = x at hv
  cases hv
  rw [Array.getD_eq_getD_getElem?] at hx
  simp only [wantedG, Option.bind_some]
  cases h : a.tmps[d]? with
  | none => rfl
  | some y => rw [h] at hx; simp at hx; rw [hx]; rfl
theorem Rd.guard {M : List Seg} {l : Env} {e : Option Tmp} {o : Op} {t : TypeId} {d : Nat} {b : Bool} {v : AV} (hb : lk l d = .v (.bool b)) (h : Rd P w0 n M l ⟨e, o, t, none⟩ v) : Rd P w0 n M l ⟨e, o, t, some (some d, b)⟩ v := by
  intro w I F a hi he
  obtain ⟨x, w', h1, h2, h3⟩ := h w I F a hi ⟨he.1, fun k hk => he.2 k (by simp [looks] at hk ⊢; exact .inl hk)⟩
  have hl : lk (only l (looks ⟨e, o, t, some (some d, b)⟩)) d = .v (.bool b) := by rw [lk_only _ _ (by simp [looks])]; exact hb
  have hv := guard_val he.ok hl
  refine ⟨x, w', .inl ⟨by simp [wantedG, hv], ?_⟩, h2, h3⟩
  rcases h1 with ⟨_, h1⟩ | ⟨h1, _⟩
  · exact h1
  · cases h1
theorem Rd.ld (T : TabOk P tt) {M : List Seg} {l : Env} {d : Option Tmp} {ty t : TypeId} {x : Operand} {i : TI} {b o : Nat} {e : TypeId} {cs : List AV} {av : AV} (hx : ev l x = .v (.pointer (some ⟨b, o, none⟩))) (hi : tlook tt t = some i)
    (hs : Sg M [(b, .row e cs)]) (h : loadA i (cs.drop o) = some av) : Rd P w0 n M l ⟨d, .load t x, ty, none⟩ av := by
  intro w I F a hiv he
  have hl : ev (only l (looks ⟨d, .load t x, ty, none⟩)) x = .v (.pointer (some ⟨b, o, none⟩)) := by
    cases x <;> try exact hx
    rename_i k
    show lk _ k = _
    rw [lk_only _ _ (by simp [looks, Op.operands, tmpsOf])]; exact hx
  have h1 := he.ok.ev x; rw [hl] at h1
  generalize e1 : a.eval x = xv at h1
  cases h1
  obtain ⟨c, lo, hi', hb, hc, hf, hcell, _⟩ := hiv.row (b := b) (e := e) (cs := cs) (by simp only [List.mem_append]; exact .inl (hs.mem (by simp)))
  obtain ⟨v, h2, h3⟩ := run_loadVar T hi (w := w) (I := I) (b := b) (o := o) (xs := cs.drop o) (fun j => c.getD (o + j) undef) (fun j hj => hcell (o + j) (by simp at hj; omega))
    (fun j hj => by
      have := hc.2 (o + j) (by simp at hj; omega)
      rw [List.getD_eq_getElem?_getD] at this ⊢
      rw [List.getElem?_drop]; exact this) h
  exact ⟨v, w, .inl ⟨rfl, by simp [GOp.o_mk, execOp, e1, Instr.loadAt, Instr.sureAddr, h2]⟩, h3, fun _ h => h⟩
theorem Rd.ldR (T : TabOk P tt) {M : List Seg} {l : Env} {d : Option Tmp} {ty t : TypeId} {x : Operand} {i : TI} {xs : List AV} {av : AV} (hx : ev l x = .ref xs) (hi : tlook tt t = some i) (h : loadA i xs = some av) : Rd P w0 n M l ⟨d, .load t x, ty, none⟩ av := by
  intro w I F a hiv he
  have hl : ev (only l (looks ⟨d, .load t x, ty, none⟩)) x = .ref xs := by
    cases x <;> try exact hx
    rename_i k
    show lk _ k = _
    rw [lk_only _ _ (by simp [looks, Op.operands, tmpsOf])]; exact hx
  have h1 := he.ok.ev x; rw [hl] at h1
  generalize e1 : a.eval x = xv at h1
  cases h1 with
  | ref xs b o y hc hr =>
    obtain ⟨v, h2, h3⟩ := run_loadVar T hi (w := w) (I := I) y (fun j hj => hiv.cellI (hc j hj)) hr h
    exact ⟨v, w, .inl ⟨rfl, by simp [GOp.o_mk, execOp, e1, Instr.loadAt, Instr.sureAddr, h2]⟩, h3, fun _ h => h⟩
theorem Rd.congr {M : List Seg} {l l' : Env} {g : GOp} {v : AV} (h : Rd P w0 n M l g v) (hl : ∀ k, k ∈ looks g → lk l k = lk l' k) : Rd P w0 n M l' g v :=
  fun w I F a hi he => h w I F a hi ⟨he.1, fun k hk => by rw [hl k hk]; exact he.2 k hk⟩
end
end Ab
