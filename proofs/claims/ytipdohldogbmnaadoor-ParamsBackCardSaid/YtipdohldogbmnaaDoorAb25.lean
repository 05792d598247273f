/- Rows of one's own told element by element; parts of slices of one's own; boxes that nobody changes; sorting. They ask that a table of types is the program's. -/
import Derived.Test.YtipdohldogbmnaaDoorAb24
import Derived.Sort.Grow
import Derived.Sort.Row
set_option autoImplicit false
set_option linter.unusedVariables false
set_option linter.unusedSimpArgs false
namespace Ab
open Go Go.RowKit

theorem flat_len {α β : Type} (f : α → List β) (s : Nat) : ∀ (xs : List α), (∀ x, x ∈ xs → (f x).length = s) → (xs.map f).flatten.length = xs.length * s := by
  intro xs
  induction xs with
  | nil => intro h; simp
  | cons x r ih =>
    intro h
    rw [List.map_cons, List.flatten_cons, List.length_append, h x (by simp), ih (fun y hy => h y (List.mem_cons_of_mem _ hy)), List.length_cons, Nat.add_mul, Nat.one_mul, Nat.add_comm]
theorem flat_drop {α : Type} [Inhabited α] (f : α → List AV) (s : Nat) (junk : List AV) (off : Nat) : ∀ (xs : List α) (q : Nat), (∀ x, x ∈ xs → (f x).length = s) → q < xs.length → off ≤ s →
    ((xs.map f).flatten ++ junk).drop (q * s + off) = (f (xs.getD q default)).drop off ++ (((xs.drop (q + 1)).map f).flatten ++ junk) := by
  intro xs
  induction xs with
  | nil => intro q h hq; simp at hq
  | cons x r ih =>
    intro q h hq ho
    have hx := h x (by simp)
    cases q with
    | zero =>
      simp only [Nat.zero_mul, Nat.zero_add, List.map_cons, List.flatten_cons, List.append_assoc, List.getD_cons_zero, List.drop_succ_cons, List.drop_zero]
      rw [List.drop_append_of_le_length (by omega)]
    | succ q =>
      have := ih q (fun y hy => h y (List.mem_cons_of_mem _ hy)) (by simpa using hq) ho
      simp only [List.map_cons, List.flatten_cons, List.append_assoc, List.getD_cons_succ, List.drop_succ_cons]
      rw [show (q + 1) * s + off = (f x).length + (q * s + off) by rw [hx, Nat.add_mul]; omega, List.drop_append]
      simp only [Nat.add_sub_cancel_left]
      rw [List.drop_eq_nil_of_le (by omega), List.nil_append]
      exact this
theorem loadA_app {i : TI} {ys zs : List AV} {av : AV} (h : loadA i ys = some av) : loadA i (ys ++ zs) = some av := by
  unfold loadA at *
  cases hd : aggD i.desc with
  | true =>
    rw [hd] at h
    simp only [cond_true] at h ⊢
    cases hb : Nat.ble i.size ys.length with
    | false => rw [hb] at h; cases h
    | true =>
      rw [hb] at h
      have hle := Nat.le_of_ble_eq_true hb
      have : Nat.ble i.size (ys ++ zs).length = true := Nat.ble_eq_true_of_le (by simp; omega)
      rw [this]
      simp only [cond_true] at h ⊢
      rw [List.take_append_of_le_length hle]; exact h
  | false =>
    rw [hd] at h
    simp only [cond_false] at h ⊢
    have hl : 0 < ys.length := (List.getElem?_eq_some_iff.1 h).1
    rw [List.getElem?_append_left hl]; exact h

theorem St.app {cs cs' ys zs : List AV} {k : Nat} (h : St cs k ys cs') : St (cs ++ zs) k ys (cs' ++ zs) := by
  induction h with
  | nil => exact .nil
  | here h ih => exact .here ih
  | there h ih => exact .there ih
theorem St.pre {cs cs' ys : List AV} {k : Nat} (h : St cs k ys cs') : ∀ (ps : List AV), St (ps ++ cs) (ps.length + k) ys (ps ++ cs')
  | [] => by simpa using h
  | p :: ps => by
    have := St.pre h ps
    rw [List.length_cons, show ps.length + 1 + k = (ps.length + k) + 1 by omega]
    exact .there this
theorem flat_split {α : Type} [Inhabited α] (f : α → List AV) (xs : List α) (q : Nat) (hq : q < xs.length) : (xs.map f).flatten = ((xs.take q).map f).flatten ++ (f (xs.getD q default) ++ ((xs.drop (q + 1)).map f).flatten) := by
  have e : xs = xs.take q ++ (xs.getD q default :: xs.drop (q + 1)) := by
    rw [List.getD_eq_getElem?_getD, List.getElem?_eq_getElem hq, Option.getD_some, List.getElem_cons_drop, List.take_append_drop]
  conv => lhs; rw [e]
  simp
theorem flat_set {α : Type} [Inhabited α] (f : α → List AV) (xs : List α) (q : Nat) (hq : q < xs.length) (x' : α) : ((xs.set q x').map f).flatten = ((xs.take q).map f).flatten ++ (f x' ++ ((xs.drop (q + 1)).map f).flatten) := by
  rw [List.set_eq_take_append_cons_drop, if_pos hq]
  simp

section rules
variable {P : Program} {tt : Tab} {w0 : World} {ro : Option Nat} {n : Nat} {M : List Seg} {l : Env} {ds : List Deferred} {L L1 : List Seg} {Q : Post} {gs : List GOp}
variable {ty : TypeId}

/-- A new variable that nobody changes. -/
theorem SO.boxF {d : Tmp} {t : TypeId} {x : Operand} {cs : List AV} (hx : (ev l x).cells = some cs)
    (hk : SO P w0 ro n gs ((d, .ref cs) :: l) ds L Q) : SO P w0 ro n (⟨some d, .box t x, ty, none⟩ :: gs) l ds L Q := by
  refine SO.valueW rfl (by intro c; simp [GOp.o_mk]) fun w I F a hiv he => ?_
  have h1 := cells_ok (he.ev x) hx
  have hinv := hiv.alloc (o := .cells (a.eval x).cells t) (ao := .raw (.cells (a.eval x).cells t)) rfl
  obtain ⟨J, hJ, hJb, hinv2⟩ := hinv.freeze (heap_push_new w _)
  refine ⟨.pointer (some ⟨w.heap.size, 0, none⟩), w.alloc (.cells (a.eval x).cells t), J, _, L, ?_, hJ, ?_, hinv2, hk⟩
  · simp only [GOp.o_mk, execOp, Instr.box, Sem.run_bind, Result.andThen_ok, newVar, newRow, run_newObj, Sem.run_pure]; rfl
  · refine .ref cs w.heap.size 0 (fun j => (a.eval x).cells.getD j undef) (fun j hj => ⟨_, _, _, hJb, ?_⟩) (fun j hj => (h1.2 j hj).mono hJ)
    have : j < (a.eval x).cells.size := by rw [h1.1]; exact hj
    rw [Nat.zero_add, Array.getD_eq_getD_getElem?, Array.getElem?_eq_getElem this]; rfl

/-- x[lo:hi:mx] of a slice that nobody changes. -/
theorem Rdp.slA3 (T : TabOk P tt) {d : Option Tmp} {α : Type} {xs : List α} {f : α → List AV} {t e : TypeId} {i j : TI} {x : Operand} {size : Nat} {lo : Option Operand} {hi' mx : Operand} {a b : Int} (hx : ev l x = .sl size xs.length (xs.map f)) (hlo : bndP l 0 lo = some a) (hhi : ev l hi' = .v (.int .i64 b))
    (hmx : ev l mx = .v (.int .i64 b))
    (hi : tlook tt t = some i) (hd : i.desc = .slice e) (hj : tlook tt e = some j) (hz : j.size = size) (h0 : 0 ≤ a) (h1 : a ≤ b) (h2 : b ≤ xs.length) :
    Rdp P w0 n M l ⟨d, .slice t x lo (some hi') (some mx), ty, none⟩ (.sl size (slI xs a b).length ((slI xs a b).map f)) := by
  subst hz
  obtain ⟨o1, g1, g2⟩ := bndP_ok hlo
  refine ⟨fun w I F ac hiv he => ?_⟩
  have k1 := he.ev x; rw [hx] at k1
  generalize e1 : ac.eval x = xv at k1
  have hsh : ∃ ad c, xv = .slice ad xs.length c ∧ xs.length ≤ c := by
    have k1' := k1
    generalize xs.length = m at k1' ⊢
    generalize xs.map f = es at k1'
    cases k1' with
    | sl0 s ad c => exact ⟨ad, c, rfl, Nat.zero_le _⟩
    | sl s m els b o c f hn hs hc hr h1' hcap => exact ⟨_, c, rfl, hcap⟩
  obtain ⟨ad, c, rfl, hm⟩ := hsh
  have hu := run_underlying T hi w
  rw [hd] at hu
  have hv1 := boundE_val he (x := hi') (i := b) hhi
  have hv2 := boundE_val he (x := mx) (i := b) hmx
  have hlb : 0 ≤ b ∧ b ≤ (c : Int) := by omega
  have hlb2 : 0 ≤ b ∧ b ≤ ((b.toNat : Nat) : Int) := by omega
  have hla : 0 ≤ a ∧ a ≤ ((b.toNat : Nat) : Int) := by omega
  have hm0 : b ≤ max b 0 := by omega
  have hm1 : a ≤ max b 0 := by omega
  have hrel := rel_part k1 (lo := a.toNat) (hi := b.toNat) (mx := b.toNat) (by omega) (by omega) (by omega) (by omega)
  have hlen : (slI xs a b).length = b.toNat - a.toNat := slI_lenN h0 h1 h2
  refine ⟨.slice (if b.toNat = a.toNat then ad else ad.map (·.add (a.toNat * j.size))) (b.toNat - a.toNat) (b.toNat - a.toNat), ?_, ?_⟩
  · have hrun : (Instr.sliceAt t (.slice ad xs.length c) (lo.map ac.eval) (some (ac.eval hi')) (some (ac.eval mx))).run P w = .ok (.slice (if b.toNat = a.toNat then ad else ad.map (·.add (a.toNat * j.size))) (b.toNat - a.toNat) (b.toNat - a.toNat)) w := by
      cases lo with
      | none =>
        cases o1 with
        | some o => exact g1.elim
        | none =>
          have : a = 0 := by simpa using g2.symm
          subst this
          simp [Instr.sliceAt, Instr.slice, hu, Instr.sliceBounds, Instr.sliceBound, asIntOf, run_sizeOf T hj, hv1, hv2, hlb, hlb2, hm0]
      | some xo =>
        cases o1 with
        | none => exact g1.elim
        | some o =>
          have : o = a := by simpa using g2
          subst this
          have hv := boundE_val he g1
          simp [Instr.sliceAt, Instr.slice, hu, Instr.sliceBounds, Instr.sliceBound, asIntOf, run_sizeOf T hj, hv, hv1, hv2, hlb, hlb2, hla, hm0, hm1, h0]
    simp only [GOp.o_mk, execOp, e1, Option.map_some, Sem.run_bind, hrun, Result.andThen_ok, Sem.run_pure]
  · rw [hlen]
    unfold slI
    rw [List.map_take, List.map_drop]
    exact hrel

/-! ### Elements of rows of one's own -/
theorem Rdp.ldF (T : TabOk P tt) {d : Option Tmp} {α : Type} [Inhabited α] {f : α → List AV} {s : Nat} {xs : List α} {junk : List AV} {t e : TypeId} {x : Operand} {i : TI} {b o : Nat} {av : AV} (q off : Nat) (hx : ev l x = .v (.pointer (some ⟨b, o, none⟩))) (hi : tlook tt t = some i)
    (hs : Sg M [(b, .row e ((xs.map f).flatten ++ junk))]) (ho : o = q * s + off) (hq : q < xs.length) (hoff : off ≤ s) (hf : ∀ x, x ∈ xs → (f x).length = s) (h : loadA i ((f (xs.getD q default)).drop off) = some av) : Rdp P w0 n M l ⟨d, .load t x, ty, none⟩ av := by
  subst ho
  exact Rdp.ld T hx hi hs (by rw [flat_drop f s junk off xs q hf hq hoff]; exact loadA_app h)
theorem SO.stF (T : TabOk P tt) {α : Type} [Inhabited α] {f : α → List AV} {s : Nat} {xs : List α} {junk ys : List AV} {t e : TypeId} {x y : Operand} {i : TI} {b o : Nat} (q off : Nat) (x' : α) {L' : List Seg} (hx : ev l x = .v (.pointer (some ⟨b, o, none⟩))) (hi : tlook tt t = some i)
    (hy : (ev l y).cells = some ys) (hsz : ys.length = i.size) (hsc : ys.all scA = true) (hu : Up L [(b, .row e ((xs.map f).flatten ++ junk))] [(b, .row e (((xs.set q x').map f).flatten ++ junk))] L')
    (ho : o = q * s + off) (hq : q < xs.length) (hf : ∀ x, x ∈ xs → (f x).length = s) (hsp : spliceC (f (xs.getD q default)) off ys = some (f x'))
    (hk : SO P w0 ro n gs l ds L' Q) : SO P w0 ro n (⟨none, .store t x y, ty, none⟩ :: gs) l ds L Q := by
  subst ho
  have hst : St ((xs.map f).flatten ++ junk) (q * s + off) ys (((xs.set q x').map f).flatten ++ junk) := by
    refine St.app ?_
    rw [flat_split f xs q hq, flat_set f xs q hq x']
    have h1 := (spliceC_ok _ _ _ _ hsp).app (zs := ((xs.drop (q + 1)).map f).flatten)
    have h2 := h1.pre ((xs.take q).map f).flatten
    have h3 : ((xs.take q).map f).flatten.length = q * s := by
      rw [flat_len f s _ (fun x hx => hf x (List.mem_of_mem_take hx)), List.length_take]
      congr 1; omega
    rw [h3] at h2
    exact h2
  exact SO.st T hx hi hy hsz hsc hst hu hk

/-- What a slice of one's own is. -/
theorem Bf.cases' {e size m c : Nat} {els : List (List AV)} {a : Option Addr} {s : Seg} (h : Bf e size els a m c s) :
    (a = none ∧ m = 0 ∧ c = 0 ∧ s = [] ∧ els = []) ∨ (∃ b junk, a = some ⟨b, 0, none⟩ ∧ s = [(b, .row e (els.flatten ++ junk))] ∧ junk.length = (c - m) * size ∧ m ≤ c) := by
  obtain ⟨hb, hl, he⟩ := h
  cases hb with
  | nil h => exact .inl ⟨rfl, rfl, rfl, rfl, List.length_eq_zero_iff.1 hl⟩
  | own b _ _ junk h1 h2 h3 => exact .inr ⟨b, junk, rfl, rfl, h2, h3⟩
theorem Bf.mk' {e size m c b : Nat} {els : List (List AV)} {junk : List AV} (hl : els.length = m) (he : ∀ x, x ∈ els → x.length = size) (hj : junk.length = (c - m) * size) (hc : m ≤ c) :
    Bf e size els (some ⟨b, 0, none⟩) m c [(b, .row e (els.flatten ++ junk))] := by
  refine ⟨.own b m c junk ?_ hj hc, hl, he⟩
  have := flat_len (fun x : List AV => x) size els he
  simpa [hl] using this

/-- A part of a slice of one's own. -/
theorem Rdp.slcO (T : TabOk P tt) {d : Option Tmp} {t e : TypeId} {i j : TI} {x : Operand} {bk o m c : Nat} {lo hi' : Option Operand} {a b : Int} (hx : ev l x = .v (.slice (some ⟨bk, o, none⟩) m c)) (hlo : bndP l 0 lo = some a) (hhi : bndP l m hi' = some b)
    (hi : tlook tt t = some i) (hd : i.desc = .slice e) (hj : tlook tt e = some j) (hm : m ≤ c) (h0 : 0 ≤ a) (h1 : a ≤ b) (h2 : b ≤ m) (hlt : a < c ∨ a = 0) :
    Rdp P w0 n M l ⟨d, .slice t x lo hi' none, ty, none⟩ (.v (.slice (some ⟨bk, o + a.toNat * j.size, none⟩) (b.toNat - a.toNat) (c - a.toNat))) := by
  obtain ⟨o1, g1, g2⟩ := bndP_ok hlo
  obtain ⟨o2, g3, g4⟩ := bndP_ok hhi
  refine ⟨fun w I F ac hiv he => ?_⟩
  have k1 := he.ev x; rw [hx] at k1
  generalize e1 : ac.eval x = xv at k1
  cases k1
  have hrun := slc_run T he hi hd hj (w := w) (a := some ⟨bk, o, none⟩) hm g1 g3 (by omega) (by omega) (by omega)
  rw [g2, g4] at hrun
  have hadr : (if c = a.toNat then (some ⟨bk, o, none⟩ : Option Addr) else (some ⟨bk, o, none⟩ : Option Addr).map (·.add (a.toNat * j.size))) = some ⟨bk, o + a.toNat * j.size, none⟩ := by
    by_cases hc : c = a.toNat
    · rw [if_pos hc]
      have : a.toNat = 0 := by omega
      rw [this]; simp
    · rw [if_neg hc]; simp [add_at]
  rw [hadr] at hrun
  exact ⟨_, by simp only [GOp.o_mk, execOp, e1, Option.map_none, Sem.run_bind, hrun, Result.andThen_ok, Sem.run_pure], .v _⟩

/-- clear of a part of a row of one's own. -/
theorem SO.clrO (T : TabOk P tt) {d : Option Tmp} {t e : TypeId} {i j : TI} {x : Operand} {b o m c : Nat} {cs : List AV} {L' : List Seg} (hx : ev l x = .v (.slice (some ⟨b, o, none⟩) m c)) (hi : tlook tt t = some i) (hd : i.desc = .slice e) (hj : tlook tt e = some j)
    (hle : o + m * j.size ≤ cs.length) (hu : Up L [(b, .row e cs)] [(b, .row e (spliceA cs o (List.replicate (m * j.size) .any)))] L') (hdn : d = none)
    (hk : SO P w0 ro n gs l ds L' Q) : SO P w0 ro n (⟨d, .call ⟨.builtin .clear, #[x], #[t]⟩, ty, none⟩ :: gs) l ds L Q := by
  subst hdn
  refine SO.valueW rfl (by intro c; simp [GOp.o_mk]) fun w I F ac hiv he => ?_
  have h1 := he.ev x; rw [hx] at h1
  generalize e1 : ac.eval x = xv at h1
  cases h1
  obtain ⟨G, p1, p2⟩ := hu.perm F
  have hiv' := hiv.perm p1
  obtain ⟨r, lo, hi', hb, hc, hf, _, hone⟩ := hiv'.row (b := b) (e := e) (cs := cs) (by simp)
  have hut := run_underlying T hi w
  rw [hd] at hut
  obtain ⟨z, hz, hz1, hz2, hz3⟩ := run_zeroValue T hj w
  have hzl : j.zero.length = j.size := by rw [← hz1, ← hz2]; simp
  have hzc := zeroCells_ok (I := I) hz1 hz3 m
  rw [hzl] at hzc
  have hzs : (Builtin.zeroCells z.cells m).size = m * j.size := by simp [Builtin.zeroCells, hz2]
  by_cases hm : m = 0
  · subst hm
    have e3 : spliceA cs o (List.replicate (0 * j.size) AV.any) = cs := by simp [spliceA]
    rw [e3] at p2
    refine ⟨.tuple #[], w, I, .any, L', ?_, IMap.le_refl I, .any _, hiv'.perm p2.symm, hk⟩
    simp [GOp.o_mk, execOp, resolve, invoke, builtin, Builtin.clear_, e1, hut]
  · have hzl2 : (Builtin.zeroCells z.cells m).toList.length = m * j.size := by simpa using hzs
    obtain ⟨w', g1, g2, g3, g4, g5, g6, g7⟩ := run_storeCells P b o (Builtin.zeroCells z.cells m).toList 0 w r e lo hi' hb (by rw [hc.1]; exact hf) (by rw [hzl2, hc.1]; omega) (fun v hv => by
      obtain ⟨p, hp, rfl⟩ := List.getElem_of_mem hv
      have hp' : p < (Builtin.zeroCells z.cells m).size := by simpa using hp
      have := hzc.2 p (by rw [← hzs]; exact hp')
      rw [Array.getD_eq_getD_getElem?, Array.getElem?_eq_getElem hp'] at this
      simpa using this)
    refine ⟨.tuple #[], w', I, .any, L', ?_, IMap.le_refl I, .any _, ?_, hk⟩
    · obtain ⟨k, rfl⟩ : ∃ k, m = k + 1 := ⟨m - 1, by omega⟩
      simp [GOp.o_mk, execOp, resolve, invoke, builtin, Builtin.clear_, e1, hut, hz, g1]
    · refine Inv.perm ?_ p2.symm
      have hsp := relL_splice (off := o) hc hzc.1 (by simpa using hle)
      have e2 : ((Builtin.zeroCells z.cells m).zipIdx.foldl (fun cs (c, j) => cs.setIfInBounds (o + j) c) r) = (((Builtin.zeroCells z.cells m).toList.zipIdx 0).foldl (fun cs (c, j) => cs.setIfInBounds (o + j) c) r) := by
        rw [← Array.foldl_toList]; congr 1; simp
      rw [e2] at hsp
      have hlc : (spliceA cs o (List.replicate (m * j.size) AV.any)).length = cs.length := by simp [spliceA]; omega
      exact Inv.set hiv' (ao' := .row e (spliceA cs o (List.replicate (m * j.size) .any))) ⟨_, lo, hi', rfl, hsp, by rw [hlc]; exact hf, fun i hi => splice_one (by rw [hc.1, hzl2]; omega) (fun p hp => hone p (by rw [← hc.1]; exact hp)) (fun p hp => hzc.2 p (by rw [hzl2] at hp; exact hp)) i (by rw [hc.1, ← hlc]; exact hi)⟩ g2 g3 g4 g5 g6 g7
end rules
end Ab
