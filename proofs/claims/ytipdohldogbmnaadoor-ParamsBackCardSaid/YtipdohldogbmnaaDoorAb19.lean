/- Literals and append, with bounds that are easily shown; variables of the packages; what becomes unchangeable between two operations. They ask that a table of types is the program's. -/
import Derived.Test.YtipdohldogbmnaaDoorAb18
set_option autoImplicit false
set_option linter.unusedVariables false
set_option linter.unusedSimpArgs false
namespace Ab
open Go Go.RowKit
/-- Cells written over. -/
def spliceC : List AV → Nat → List AV → Option (List AV)
  | cs, 0, [] => some cs
  | [], _, _ => none
  | _ :: r, 0, y :: ys => (match spliceC r 0 ys with | some z => some (y :: z) | none => none)
  | c :: r, k + 1, ys => (match spliceC r k ys with | some z => some (c :: z) | none => none)
section rules
variable {P : Program} {tt : Tab} {w0 : World} {ro : Option Nat} {n : Nat} {M : List Seg} {l : Env} {ds : List Deferred} {L L1 : List Seg} {Q : Post} {gs : List GOp}
variable {ty : TypeId}

theorem SO.bsB (T : TabOk P tt) {d : Tmp} {t e : TypeId} {i j : TI} {m : Nat} {ps : Array (Nat × Operand)} {es : List (List AV)} (hi : tlook tt t = some i) (hd : i.desc = .slice e) (hj : tlook tt e = some j)
    (hes : elsP l j.size 0 ps.toList = some es) (hm : ps.size = m) (hle : Nat.ble (m * j.size) 16777216 = true) (hel : Nat.beq es.length m = true) (hall : es.all (fun x => Nat.beq x.length j.size) = true)
    (hk : ∀ a c s, Bf e j.size es a m c s → SO P w0 ro n gs ((d, .v (.slice a m c)) :: l) ds (s :: L) Q) : SO P w0 ro n (⟨some d, .buildSlice t m ps, ty, none⟩ :: gs) l ds L Q :=
  SO.bsO T hi hd hj hes hm (Nat.le_of_ble_eq_true hle) fun a c s hB => hk a c s ⟨hB, Nat.eq_of_beq_eq_true hel, fun x hx => Nat.eq_of_beq_eq_true (List.all_eq_true.1 hall x hx)⟩
theorem SO.appA (T : TabOk P tt) {d : Tmp} {t e tx : TypeId} {i j k : TI} {x y : Operand} {m q c : Nat} {a : Option Addr} {s : Seg} {els0 els : List (List AV)} {L2 : Seg → List Seg}
    (hx : ev l x = .v (.slice a m c)) (hi : tlook tt t = some i) (hd : i.desc = .slice e) (hj : tlook tt e = some j) (hB : Bf e j.size els0 a m c s) (hy : Sub (ev l y) (.sl j.size q els)) (hk' : tlook tt tx = some k) (hkd : ∃ e2, k.desc = .slice e2)
    (hu : ∀ s', Up L s s' (L2 s')) (hb2 : Nat.ble j.bytes 512 = true) (hb4 : Nat.ble 1 j.bytes = true) (hb1 : m + q ≤ 68719476736)
    (hk : ∀ a' c' s', Bf e j.size (els0 ++ els) a' (m + q) c' s' → SO P w0 ro n gs ((d, .v (.slice a' (m + q) c')) :: l) ds (L2 s') Q) :
    SO P w0 ro n (⟨some d, .call ⟨.builtin .append, #[x, y], #[t, tx]⟩, ty, none⟩ :: gs) l ds L Q := by
  have h2 := Nat.le_of_ble_eq_true hb2
  have h4 := Nat.le_of_ble_eq_true hb4
  refine SO.app T hx hB hy hi hd hj hk' hkd hu ?_ (by omega) (by omega) (by omega) hk
  calc (m + q) * j.bytes ≤ 68719476736 * 512 := Nat.mul_le_mul hb1 h2
    _ ≤ _ := by omega
theorem SO.appZ (T : TabOk P tt) {d : Tmp} {t e tx : TypeId} {i j k : TI} {x y : Operand} {q : Nat} {els : List (List AV)}
    (hx : ev l x = .v (.slice none 0 0)) (hi : tlook tt t = some i) (hd : i.desc = .slice e) (hj : tlook tt e = some j) (hy : Sub (ev l y) (.sl j.size q els)) (hk' : tlook tt tx = some k) (hkd : ∃ e2, k.desc = .slice e2)
    (hb2 : Nat.ble j.bytes 512 = true) (hb4 : Nat.ble 1 j.bytes = true) (hb1 : q ≤ 68719476736)
    (hk : ∀ a' c' s', Bf e j.size els a' q c' s' → SO P w0 ro n gs ((d, .v (.slice a' q c')) :: l) ds (s' :: L) Q) :
    SO P w0 ro n (⟨some d, .call ⟨.builtin .append, #[x, y], #[t, tx]⟩, ty, none⟩ :: gs) l ds L Q := by
  have h2 := Nat.le_of_ble_eq_true hb2
  have h4 := Nat.le_of_ble_eq_true hb4
  refine SO.app0 T hx hy hi hd hj hk' hkd ?_ (by omega) (by omega) (by omega) hk
  calc q * j.bytes ≤ 68719476736 * 512 := Nat.mul_le_mul hb1 h2
    _ ≤ _ := by omega

/-- What holds of no operation holds of nothing more: facts about slots between two parts of the code. -/
theorem SW.of_so {c : Code} (h : ∀ (Q' : Post), (∀ l' L', SW P w0 ro n c l' ds L' Q → Q' .normal l' ds L') → SO P w0 ro n [] l ds L Q') : SW P w0 ro n c l ds L Q := by
  refine ⟨fun w I F a hi he hd => ?_⟩
  have := (h (fun e l' ds' L' => match e with | .normal => ds' = ds ∧ SW P w0 ro n c l' ds L' Q | _ => False) (fun l' L' hk => ⟨rfl, hk⟩)).out (fun g hg => by simp at hg) w I F a hi he hd
  obtain ⟨J, l', L', h1, h2, h3, h4, h5⟩ := this
  exact wpIn_mono (h5.out w J F a h3 h2 hd) fun e a w hq => hq.up h1
theorem SW.frz {co : Code} {e size m c : Nat} {els : List (List AV)} {a : Option Addr} {s : Seg} (k : Nat) (hx : lk l k = .v (.slice a m c)) (hB : Bf e size els a m c s) (hr : Rm L s L1)
    (hk : SW P w0 ro n co ((k, .sl size m els) :: l) ds L1 Q) : SW P w0 ro n co l ds L Q := SW.of_so fun Q' h => SO.frz k hx hB hr (SO.nil (h _ _ hk))
theorem SW.sub {co : Code} (k : Nat) {x y : AV} (hx : lk l k = x) (h : Sub x y) (hk : SW P w0 ro n co ((k, y) :: l) ds L Q) : SW P w0 ro n co l ds L Q := SW.of_so fun Q' g => SO.sub k hx h (SO.nil (g _ _ hk))
theorem SW.re {co : Code} (k : Nat) {x y : AV} (hx : lk l k = x) (e : x = y) (hk : SW P w0 ro n co ((k, y) :: l) ds L Q) : SW P w0 ro n co l ds L Q := SW.of_so fun Q' g => SO.re k hx e (SO.nil (g _ _ hk))
theorem SW.perm {co : Code} {L2 : List Seg} (h : SW P w0 ro n co l ds L2 Q) (p : L.flatten.Perm L2.flatten) : SW P w0 ro n co l ds L Q := SW.of_so fun Q' g => SO.perm (SO.nil (g _ _ h)) p
theorem SW.drop {co : Code} {L2 : List Seg} (h : SW P w0 ro n co l ds L2 Q) (p : L2.flatten.Sublist L.flatten) : SW P w0 ro n co l ds L Q := SW.of_so fun Q' g => SO.drop (SO.nil (g _ _ h)) p

/-- A cell of a variable that is there when all begins. -/
theorem Rdp.ldG (T : TabOk P tt) {d : Option Tmp} {t : TypeId} {x : Operand} {i : TI} {b o : Nat} {v : Value} (hx : ev l x = .v (.pointer (some ⟨b, o, none⟩))) (hi : tlook tt t = some i) (ha : aggD i.desc = false) (hg : w0.cell? ⟨b, o, none⟩ = some v) (hb : b < w0.heap.size) :
    Rdp P w0 n M l ⟨d, .load t x, ty, none⟩ (.v v) := by
  refine ⟨fun w I F a hiv he => ?_⟩
  have h1 := he.ev x; rw [hx] at h1
  generalize e1 : a.eval x = xv at h1
  cases h1
  have hc : w.cell? ⟨b, o, none⟩ = some v := by
    unfold World.cell? at hg ⊢
    have h2 := hiv.base b hb
    have h3 : w0.heap[b]? = some w0.heap[b] := Array.getElem?_eq_getElem hb
    rw [h3] at h2 hg
    have h4 := hiv.imm _ _ h2
    simp only [h4]
    exact hg
  exact ⟨v, by simp [GOp.o_mk, execOp, e1, Instr.loadAt, Instr.sureAddr, loadVar, run_isAgg T hi, ha, hc], .v v⟩
theorem Rdp.neg {d : Option Tmp} {t : TypeId} {x : Operand} {k : IntKind} {a : Int} (c : Int) (hx : ev l x = .v (.int k a)) (h : k.wrap (0 - a) = c) : Rdp P w0 n M l ⟨d, .unOp .neg t x, ty, none⟩ (.v (.int k c)) := by
  refine ⟨fun w I F ac hiv he => ⟨.int k c, ?_, .v _⟩⟩
  have h1 := he.ev x; rw [hx] at h1
  generalize e1 : ac.eval x = xv at h1
  cases h1
  subst h
  simp only [GOp.o_mk, execOp, e1, Op.unary, Op.intArith, Sem.run_bind, Sem.run_pure, Result.andThen_ok]
theorem opMulW {k : IntKind} {a b : Int} : OpR .mul k a k b (k.wrap (a * b)) := ⟨fun P t w => by simp [binOp, Op.intArith]⟩
theorem opAddW {k : IntKind} {a b : Int} : OpR .add k a k b (k.wrap (a + b)) := ⟨fun P t w => by simp [binOp, Op.intArith]⟩
theorem opSubW {k : IntKind} {a b : Int} : OpR .sub k a k b (k.wrap (a - b)) := ⟨fun P t w => by simp [binOp, Op.intArith]⟩
/-- Is a slice nil? Both ways. -/
theorem SO.eqB (T : TabOk P tt) {d : Tmp} {t yt e : TypeId} {i : TI} {x : Operand} {c1 c2 : Nat} {size m : Nat} {els : List (List AV)} (hx : ev l x = .sl size m els) (hi : tlook tt t = some i) (hd : i.desc = .slice e)
    (ht : m = 0 → SO P w0 ro n gs ((d, .v (.bool true)) :: l) ds L Q) (hf : SO P w0 ro n gs ((d, .v (.bool false)) :: l) ds L Q) : SO P w0 ro n (⟨some d, .binOp .eql t x (.const (.slice none c1 c2)) yt, ty, none⟩ :: gs) l ds L Q :=
  SO.eqN T hx hi hd fun b hb => match b, hb with
    | true, hb => ht (by rcases Nat.eq_zero_or_pos m with h | h; exact h; exact absurd (hb h) (by simp))
    | false, _ => hf
theorem spliceC_ok : ∀ (cs : List AV) (k : Nat) (ys : List AV) (cs' : List AV), spliceC cs k ys = some cs' → St cs k ys cs' := by
  intro cs
  induction cs with
  | nil => intro k ys cs' h; cases k <;> cases ys <;> simp [spliceC] at h; subst h; exact .nil
  | cons c r ih =>
    intro k ys cs' h
    cases k with
    | zero =>
      cases ys with
      | nil => simp only [spliceC, Option.some.injEq] at h; subst h; exact .nil
      | cons y ys =>
        simp only [spliceC] at h
        split at h
        · rename_i z hz; cases h; exact .here (ih _ _ _ hz)
        · cases h
    | succ k =>
      simp only [spliceC] at h
      split at h
      · rename_i z hz; cases h; exact .there (ih _ _ _ hz)
      · cases h
/-- A store, the new cells worked out. -/
theorem SO.stC (T : TabOk P tt) {t : TypeId} {x y : Operand} {i : TI} {b o : Nat} {e : TypeId} {cs cs' ys : List AV} {L' : List Seg} (hx : ev l x = .v (.pointer (some ⟨b, o, none⟩))) (hi : tlook tt t = some i)
    (hy : (ev l y).cells = some ys) (hsz : ys.length = i.size) (hsc : ys.all scA = true) (hu : Up L [(b, .row e cs)] [(b, .row e cs')] L') (hst : spliceC cs o ys = some cs')
    (hk : SO P w0 ro n gs l ds L' Q) : SO P w0 ro n (⟨none, .store t x y, ty, none⟩ :: gs) l ds L Q := SO.st T hx hi hy hsz hsc (spliceC_ok _ _ _ _ hst) hu hk
theorem Bf.frz {e size m c : Nat} {els : List (List AV)} {a : Option Addr} {s : Seg} (hB : Bf e size els a m c s) {w : World} {I : IMap} {F : HL} (hiv' : Inv w0 w I (s ++ F)) :
    ∃ J : IMap, I.le J ∧ Inv w0 w J F ∧ Rel J (.sl size m els) (.slice a m c) := by
  obtain ⟨hb, hlen, hel⟩ := hB
  cases hb with
  | nil h =>
    have : els = [] := List.length_eq_zero_iff.1 hlen
    subst this
    exact ⟨I, IMap.le_refl I, by simpa using hiv', .sl0 _ _ _⟩
  | own b _ _ junk h1 h2 h3 =>
    obtain ⟨r, lo, hi', hb, hc, hf, hcell, hone⟩ := hiv'.row (b := b) (e := e) (cs := els.flatten ++ junk) (by simp)
    obtain ⟨J, hJ, hJb, hi2⟩ := Inv.freeze (by simpa using hiv') hb
    refine ⟨J, hJ, hi2, ?_⟩
    refine .sl size m els b 0 c (fun p q => r.getD (p * size + q) undef) hlen (fun p hp => ?_) (fun p q hp hq => ?_) (fun p q hp hq => ?_) (fun p q hp hq => ?_) h3
    · have hp' : p < els.length := by omega
      rw [List.getD_eq_getElem?_getD, List.getElem?_eq_getElem hp']
      exact hel _ (List.getElem_mem hp')
    all_goals
      have hlt : p * size + q < els.flatten.length := by
        rw [h1]
        calc p * size + q < p * size + size := by omega
          _ = (p + 1) * size := by rw [Nat.add_mul, Nat.one_mul]
          _ ≤ m * size := Nat.mul_le_mul_right _ (by omega)
    · have hlt2 : p * size + q < r.size := by rw [hc.1, List.length_append]; omega
      refine ⟨r, e, (lo, hi'), hJb, ?_⟩
      rw [Nat.zero_add, Array.getD_eq_getD_getElem?, Array.getElem?_eq_getElem hlt2]; rfl
    · have := (hc.2 (p * size + q) (by rw [List.length_append]; omega)).mono hJ
      rw [List.getD_eq_getElem?_getD, List.getElem?_append_left hlt] at this
      have h4 := flatten_getD els size hel (p * size + q) (by omega)
      have h5 : (p * size + q) / size = p := by rw [Nat.mul_comm, Nat.mul_add_div (by omega), Nat.div_eq_of_lt hq]; rfl
      have h6 : (p * size + q) % size = q := by rw [Nat.mul_comm, Nat.mul_add_mod, Nat.mod_eq_of_lt hq]
      rw [h5, h6] at h4
      rw [← h4, List.getD_eq_getElem?_getD]; exact this
    · exact hone _ (by rw [List.length_append]; omega)
/-- A result that is, or becomes, what nobody changes. -/
inductive Frz (r : AV) : List Seg → AV → Prop
  | sub {r' : AV} (h : Sub r r') : Frz r [] r'
  | own {e size m c : Nat} {els : List (List AV)} {a : Option Addr} {s : Seg} (hr : r = .v (.slice a m c)) (hB : Bf e size els a m c s) : Frz r [s] (.sl size m els)
/-- A function whose result becomes what nobody changes. -/
theorem Fn.frz {f : FuncId} {args : List AV} {L0 : List Seg} {r' : AV} (h : Fn P w0 f args L0 (fun r L' => Frz r L' r')) : Fn P w0 f args L0 (fun r L' => r = r' ∧ L' = []) := by
  refine ⟨fun w I F vals hi hv => (h.out w I F vals hi hv).mono fun e w' ⟨J, L', h1, h2, h3⟩ => ?_⟩
  rcases h3 with ⟨v, r, he, hr, hz⟩ | ⟨v, _, hp⟩
  · cases hz with
    | sub hs => exact ⟨J, [], h1, h2, .inl ⟨v, _, he, hs _ _ hr, rfl, rfl⟩⟩
    | @own e size m c els a s hr' hB =>
      subst hr'
      cases hr
      obtain ⟨J', g1, g2, g3⟩ := hB.frz (F := F) (by simpa using h2)
      exact ⟨J', [], IMap.le_trans h1 g1, by simpa using g2, .inl ⟨_, _, he, g3, rfl, rfl⟩⟩
  · exact hp.elim
theorem Frz.own' {r : AV} {e size m m' c : Nat} {els els' : List (List AV)} {a : Option Addr} {s : Seg} (hr : r = .v (.slice a m c)) (hB : Bf e size els a m c s) (hm : m = m') (he : els = els') : Frz r [s] (.sl size m' els') := by
  subst hm; subst he; exact .own hr hB
theorem Sub.tup {as bs : List AV} (h : Subs as bs) : Sub (.tup as) (.tup bs) := by
  intro I x hx
  cases hx with
  | tup xs vs hn hr =>
    have := h.rel ⟨hn, hr⟩
    exact .tup _ _ this.1 this.2
theorem Sub.agg {as bs : List AV} (h : Subs as bs) : Sub (.agg as) (.agg bs) := by
  intro I x hx
  cases hx with
  | agg xs vs hn hr =>
    have := h.rel ⟨hn, hr⟩
    exact .agg _ _ this.1 this.2
theorem Sub.of {a b : AV} (h : a = b) : Sub a b := h ▸ Sub.refl a
/-- A result that is a slice of one's own. -/
def Ownd (e size m : Nat) (els : List (List AV)) (r : AV) (L' : List Seg) : Prop := ∃ a c s, r = .v (.slice a m c) ∧ Bf e size els a m c s ∧ L' = [s]
theorem Ownd.of {e size m m' c : Nat} {els els' : List (List AV)} {r : AV} {a : Option Addr} {s : Seg} (hr : r = .v (.slice a m' c)) (hB : Bf e size els' a m' c s) (hm : m' = m) (he : els' = els) : Ownd e size m els r [s] := by
  subst hm; subst he; exact ⟨a, c, s, hr, hB, rfl⟩
theorem Ownd.frz {e size m : Nat} {els : List (List AV)} {r : AV} {L' : List Seg} (h : Ownd e size m els r L') : Frz r L' (.sl size m els) := by
  obtain ⟨a, c, s, h1, h2, h3⟩ := h
  subst h3
  exact .own h1 h2
theorem Fn.frzO {f : FuncId} {args : List AV} {L0 : List Seg} {e size m : Nat} {els : List (List AV)} (h : Fn P w0 f args L0 (Ownd e size m els)) : Fn P w0 f args L0 (fun r L' => r = .sl size m els ∧ L' = []) :=
  Fn.frz (h.mono (fun r L h => h.frz) (fun _ _ h => h))
theorem SO.callO {d : Tmp} {f : FuncId} {args : Array Operand} {ts : Array TypeId} {avs : List AV} {e size m : Nat} {els : List (List AV)} (hF : HasF P f) (hfn : Fn P w0 f avs [] (Ownd e size m els)) (hs : Subs (args.toList.map (ev l)) avs)
    (hk : ∀ a c s, Bf e size els a m c s → SO P w0 ro n gs ((d, .v (.slice a m c)) :: l) ds (s :: L) Q) : SO P w0 ro n (⟨some d, .call ⟨.value (.func f), args, ts⟩, ty, none⟩ :: gs) l ds L Q :=
  SO.call hF hfn hs .nil (fun r L' ⟨a, c, s, h1, h2, h3⟩ => by subst h1; subst h3; exact hk a c s h2) (fun _ _ h => h.elim)
/-- What the table of math/bits says of 1, 2, 4, 8. -/
structure Tz (w0 : World) (g : Nat) : Prop where
  lt : g < w0.heap.size
  c0 : w0.cell? ⟨g, 0, none⟩ = some (.int .u8 0)
  c1 : w0.cell? ⟨g, 1, none⟩ = some (.int .u8 1)
  c3 : w0.cell? ⟨g, 3, none⟩ = some (.int .u8 2)
  c7 : w0.cell? ⟨g, 7, none⟩ = some (.int .u8 3)
end rules
end Ab
