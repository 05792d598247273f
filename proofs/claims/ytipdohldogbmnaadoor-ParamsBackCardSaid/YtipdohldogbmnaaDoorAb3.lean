/- The function that works out operations whose answer hangs on values alone, and a whole row of them at once. It asks that a table of types is the program's. -/
import Derived.Test.YtipdohldogbmnaaDoorAb2
import Derived.Laws.Strings
set_option autoImplicit false
set_option linter.unusedVariables false
set_option linter.unusedSimpArgs false
namespace Ab
open Go Go.RowKit

def intB (x : AV) : Option (IntKind × Int) := match x with | .v (.int k n) => some (k, n) | _ => none
def cmpP (op : BinOp) (a b : Int) : Option AV :=
  match op with
  | .eql => some (.v (.bool (decide (a = b))))
  | .neq => some (.v (.bool (!decide (a = b))))
  | .lss => some (.v (.bool (decide (a < b))))
  | .leq => some (.v (.bool (decide (a ≤ b))))
  | .gtr => some (.v (.bool (decide (b < a))))
  | .geq => some (.v (.bool (decide (b ≤ a))))
  | _ => none
def sameK : IntKind → IntKind → Bool
  | .i8, .i8 => true | .i16, .i16 => true | .i32, .i32 => true | .i64, .i64 => true
  | .u8, .u8 => true | .u16, .u16 => true | .u32, .u32 => true | .u64, .u64 => true | _, _ => false
theorem sameK_eq {a b : IntKind} (h : sameK a b = true) : a = b := by cases a <;> cases b <;> first | rfl | cases h
def isConst : Operand → Bool | .const _ => true | _ => false
/-- '==' and '!=' on other kinds. -/
def eqP (d : TypeDesc) (c : Bool) (x y : AV) : Option Bool :=
  match d, x, y with
  | .pointer _, .v (.pointer none), .v (.pointer none) => some true
  | .pointer _, .v (.pointer (some _)), .v (.pointer none) => some false
  | .pointer _, .v (.pointer none), .v (.pointer (some _)) => some false
  | .pointer _, .ref _, .v (.pointer none) => some false
  | .slice _, .v (.slice none _ _), .v (.slice none _ _) => some true
  | .slice _, .v (.slice (some _) _ _), .v (.slice none _ _) => some false
  | .map _ _, .v (.map none), .v (.map none) => some true
  | .map _ _, .v (.map (some _)), .v (.map none) => some false
  | .func _ _ _, .v .nilFunc, .v .nilFunc => some true
  | .func _ _ _, .fn _ _ _, .v .nilFunc => some false
  | .interface _, .v .nilIface, .v .nilIface => bif c then some true else none
  | .interface _, .ifc _ _, .v .nilIface => some false
  | _, _, _ => none
def binP (tt : Tab) (op : BinOp) (t : TypeId) (c : Bool) (x y : AV) : Option AV :=
  match x, y with
  | .v (.int k a), .v (.int k' b) => bif sameK k k' then cmpP op a b else none
  | .v (.bool a), .v (.bool b) =>
    match tlook tt t, op with
    | some ⟨.bool, _, _, _⟩, .eql => some (.v (.bool (a == b)))
    | some ⟨.bool, _, _, _⟩, .neq => some (.v (.bool (!(a == b))))
    | _, _ => none
  | .v (.string a), .v (.string b) =>
    match op with
    | .eql => some (.v (.bool (decide (a = b))))
    | .neq => some (.v (.bool (!decide (a = b))))
    | _ => none
  | _, _ =>
    match tlook tt t, op with
    | some i, .eql => (eqP i.desc c x y).map fun b => .v (.bool b)
    | some i, .neq => (eqP i.desc c x y).map fun b => .v (.bool (!b))
    | _, _ => none
def lenP (x : AV) : Option Nat :=
  match x with
  | .sl _ n _ => some n
  | .z => some 0
  | .v (.slice _ n _) => some n
  | _ => none
def fieldP (tt : Tab) (t : TypeId) (f : Nat) : Option (Nat × Nat × TI) :=
  match tlook tt t with
  | some i => (match i.desc with
    | .struct fs => (match fs[f]? with
      | some fd => (match tlook tt fd.type with | some j => some (fd.offset, fd.type, j) | none => none)
      | none => none)
    | _ => none)
  | none => none
def partA (i : TI) (xs : List AV) (off : Nat) : Option AV :=
  bif aggD i.desc then some (.agg ((xs.drop off).take i.size)) else xs[off]?
def placesP (tt : Tab) : List Field → Option (List (Nat × Nat))
  | [] => some []
  | f :: r => (match tlook tt f.type, placesP tt r with | some j, some ps => some ((f.offset, j.size) :: ps) | _, _ => none)
/-- A number, worked out. -/
def forceN {β : Type} (n : Nat) (k : Nat → β) : β := match n with | 0 => k 0 | m + 1 => k (m + 1)
theorem forceN_eq {β : Type} (n : Nat) (k : Nat → β) : forceN n k = k n := by cases n <;> rfl
/-- A value, worked out to its first sign. -/
def force0 {β : Type} (x : AV) (k : AV → β) : β :=
  match x with
  | .any => k .any
  | .v x => k (.v x)
  | .z => k .z
  | .sl a b c => k (.sl a b c)
  | .ref a => k (.ref a)
  | .agg a => k (.agg a)
  | .tup a => k (.tup a)
  | .ifc t x => k (.ifc t x)
  | .fn f a b => k (.fn f a b)
theorem force0_eq {β : Type} (x : AV) (k : AV → β) : force0 x k = k x := by cases x <;> rfl
def forceA {β : Type} : List AV → (List AV → β) → β
  | [], k => k []
  | x :: r, k => force0 x fun x => forceA r fun r => k (x :: r)
theorem forceA_eq {β : Type} : ∀ (xs : List AV) (k : List AV → β), forceA xs k = k xs
  | [], k => rfl
  | x :: r, k => by rw [forceA, force0_eq, forceA_eq r]
/-- Cells written over, worked out to the end. -/
def spliceK {β : Type} (no : β) : List AV → Nat → List AV → (List AV → β) → β
  | cs, 0, [], K => K cs
  | [], _, _, _ => no
  | _ :: r, 0, y :: ys, K => spliceK no r 0 ys fun z => K (y :: z)
  | c :: r, k + 1, ys, K => spliceK no r k ys fun z => K (c :: z)
theorem spliceK_ok {β : Type} {no : β} : ∀ (cs : List AV) (k : Nat) (ys : List AV) (K : List AV → β), spliceK no cs k ys K = no ∨ (k + ys.length ≤ cs.length ∧ spliceK no cs k ys K = K (spliceA cs k ys)) := by
  intro cs
  induction cs with
  | nil =>
    intro k ys K
    cases k with
    | zero => cases ys with | nil => exact .inr ⟨by simp, rfl⟩ | cons y ys => exact .inl rfl
    | succ k => exact .inl rfl
  | cons c r ih =>
    intro k ys K
    cases k with
    | zero =>
      cases ys with
      | nil => exact .inr ⟨by simp, by simp [spliceK, spliceA]⟩
      | cons y ys =>
        rcases ih 0 ys (fun z => K (y :: z)) with h | ⟨h1, h2⟩
        · exact .inl h
        · refine .inr ⟨by simp at h1 ⊢; omega, ?_⟩
          rw [spliceK, h2]
          simp [spliceA]
    | succ k =>
      rcases ih k ys (fun z => K (c :: z)) with h | ⟨h1, h2⟩
      · exact .inl (by rw [spliceK]; exact h)
      · refine .inr ⟨by simp at h1 ⊢; omega, ?_⟩
        rw [spliceK, h2]
        have : k + 1 + ys.length = (k + ys.length) + 1 := by omega
        simp [spliceA, this]
def fillK (place : Nat → Option (Nat × Nat)) : List (Nat × AV) → List AV → Option AV
  | [], cells => some (.agg cells)
  | (i, v) :: rest, cells =>
    match place i, v.cells with
    | some (off, size), some ys => bif Nat.beq ys.length size then spliceK none cells off ys fun cs => fillK place rest cs else none
    | _, _ => none
theorem fillK_ok {place : Nat → Option (Nat × Nat)} : ∀ (ps : List (Nat × AV)) (cells : List AV) (av : AV), fillK place ps cells = some av → ∃ out, fillA place cells ps = some out ∧ av = .agg out := by
  intro ps
  induction ps with
  | nil => intro cells av h; cases h; exact ⟨cells, rfl, rfl⟩
  | cons p ps ih =>
    intro cells av h
    obtain ⟨i, v⟩ := p
    simp only [fillK] at h
    simp only [fillA]
    cases hp : place i with
    | none => rw [hp] at h; cases h
    | some os =>
      obtain ⟨off, size⟩ := os
      cases hc : v.cells with
      | none => rw [hp, hc] at h; cases h
      | some ys =>
        rw [hp, hc] at h
        simp only at h ⊢
        cases hb : Nat.beq ys.length size with
        | false => rw [hb] at h; cases h
        | true =>
          rw [hb] at h
          simp only [cond_true] at h
          rcases spliceK_ok (no := none) cells off ys (fun cs => fillK place ps cs) with h1 | ⟨h1, h2⟩
          · rw [h1] at h; cases h
          · rw [h2] at h
            have hble : Nat.ble (off + ys.length) cells.length = true := Nat.ble_eq_true_of_le h1
            rw [hble]
            exact ih _ _ h
def evalP (tt : Tab) (l : Env) (op : Op) : Option AV :=
  match op with
  | .move x => some (ev l x)
  | .assign x => some (ev l x)
  | .pick c x y => (match ev l c with | .v (.bool true) => some (ev l x) | .v (.bool false) => some (ev l y) | _ => none)
  | .binOp b t x y _ => binP tt b t (isConst x || isConst y) (ev l x) (ev l y)
  | .unOp .not _ x => (match ev l x with | .v (.bool b) => some (.v (.bool (!b))) | _ => none)
  | .extract x i => (match ev l x with | .tup xs => xs[i]? | _ => none)
  | .makeFunc f a b => forceA (a.toList.map (ev l)) fun a => forceA (b.toList.map (ev l)) fun b => some (.fn f a b)
  | .makeInterface t x => (match tlook tt t with | some ⟨.interface _, _, _, _⟩ => none | some _ => some (.ifc t (ev l x)) | none => none)
  | .nilCheck x => (match ev l x with | .v (.pointer (some a)) => some (.v (.pointer (some a))) | .ref xs => some (.ref xs) | _ => none)
  | .fieldAddr t x f =>
    (match fieldP tt t f with
    | some (off, _, j) => bif Nat.beq j.size 0 then none else
      (match ev l x with | .v (.pointer (some ⟨b, o, none⟩)) => forceN (o + off) fun q => some (.v (.pointer (some ⟨b, q, none⟩))) | .ref xs => some (.ref (xs.drop off)) | _ => none)
    | none => none)
  | .field t x f => (match fieldP tt t f, ev l x with | some (off, _, j), .agg xs => (bif Nat.ble (off + j.size) xs.length then partA j xs off else none) | _, _ => none)
  | .build t parts =>
    (match tlook tt t with
    | some i => (match i.desc with
      | .struct fs => (match placesP tt fs.toList with
        | some ps => fillK (fun k => ps[k]?) (parts.toList.map fun (k, x) => (k, ev l x)) i.zero
        | none => none)
      | .array _ e => (match tlook tt e with | some j => fillK (fun k => some (k * j.size, j.size)) (parts.toList.map fun (k, x) => (k, ev l x)) i.zero | none => none)
      | _ => none)
    | none => none)
  | .call ⟨.builtin .len, args, ts⟩ =>
    (match args[0]?, ts[0]? with
    | some x, some t => (match tlook tt t with
      | some i => (match i.desc, ev l x with
        | .slice _, y => (lenP y).map fun n => .v (.int .i64 n)
        | .string, .v (.string s) => some (.v (.int .i64 s.size))
        | .array k _, _ => some (.v (.int .i64 k))
        | _, _ => none)
      | none => none)
    | _, _ => none)
  | .typeAssert x xt a true =>
    (match tlook tt a with
    | some i => (match i.desc with
      | .interface _ => none
      | _ => (match ev l x with
        | .ifc t y => bif Nat.beq t a then some (.tup [y, .v (.bool true)]) else none
        | _ => none))
    | none => none)
  | _ => none

theorem strEq (a b : ByteArray) : (a.toList == b.toList) = decide (a = b) := by
  rw [Bool.eq_iff_iff]
  simp only [beq_iff_eq, decide_eq_true_eq]
  constructor
  · intro h
    have h1 : a.data.toList = b.data.toList := by rw [← ByteArray.toList_eq, ← ByteArray.toList_eq]; exact h
    cases a; cases b
    simp only [ByteArray.mk.injEq]
    exact Array.toList_inj.1 h1
  · intro h; rw [h]
theorem equal_of {P : Program} {t : TypeId} {x y : Value} {r : Result Bool} {w : World} (h : ∀ d, (Op.equalIn (d + 1) t x y).run P w = r) : (Op.equal t x y).run P w = r := h 9999
/-- '==' and '!=' by way of Op.equal. -/
theorem binOp_eql_of {P : Program} {t : TypeId} {x y : Value} {b : Bool} {w : World} (hi : ∀ k a, x ≠ .int k a) (hf : ∀ k a, x ≠ .float k a) (hc : ∀ k a b, x ≠ .complex k a b) (hs : ∀ s, x ≠ .string s)
    (h : (Op.equal t x y).run P w = .ok b w) : (binOp .eql t x y).run P w = .ok (.bool b) w := by
  have : binOp .eql t x y = (do pure (.bool (← Op.equal t x y)) : Sem Value) := by
    cases x <;> first | (exact absurd rfl (hi _ _)) | (exact absurd rfl (hf _ _)) | (exact absurd rfl (hc _ _ _)) | (exact absurd rfl (hs _)) | (simp only [binOp])
  rw [this]; simp [h]
theorem binOp_neq_of {P : Program} {t : TypeId} {x y : Value} {b : Bool} {w : World} (hi : ∀ k a, x ≠ .int k a) (hf : ∀ k a, x ≠ .float k a) (hc : ∀ k a b, x ≠ .complex k a b) (hs : ∀ s, x ≠ .string s)
    (h : (Op.equal t x y).run P w = .ok b w) : (binOp .neq t x y).run P w = .ok (.bool (!b)) w := by
  have : binOp .neq t x y = (do pure (.bool (!(← Op.equal t x y))) : Sem Value) := by
    cases x <;> first | (exact absurd rfl (hi _ _)) | (exact absurd rfl (hf _ _)) | (exact absurd rfl (hc _ _ _)) | (exact absurd rfl (hs _)) | (simp only [binOp])
  rw [this]; simp [h]
theorem cmpP_ok {op : BinOp} {a b : Int} {av : AV} (h : cmpP op a b = some av) (I : IMap) (P : Program) (w : World) : ∃ x, (Op.intCmp op a b).run P w = .ok x w ∧ Rel I av x := by
  cases op <;> simp only [cmpP, Option.some.injEq, reduceCtorEq] at h <;> subst h
  · exact ⟨_, rfl, by show Rel I _ (.bool (a == b)); exact .v _⟩
  · exact ⟨_, rfl, by show Rel I _ (.bool (a != b)); exact .v _⟩
  · exact ⟨_, rfl, .v _⟩
  · exact ⟨_, rfl, .v _⟩
  · exact ⟨_, rfl, .v _⟩
  · exact ⟨_, rfl, .v _⟩

theorem eqP_ok {P : Program} {I : IMap} {xo yo : Operand} {x y : AV} {u v : Value} {d : TypeDesc} {t : TypeId} {b : Bool} {w : World} (hx : Rel I x u) (hy : Rel I y v) (h : eqP d (isConst xo || isConst yo) x y = some b)
    (hu : (underlying t).run P w = .ok d w) (op : BinOp) : (eqGuard op t xo yo u v).run P w = .ok () w ∧
      (op = .eql → (binOp op t u v).run P w = .ok (.bool b) w) ∧ (op = .neq → (binOp op t u v).run P w = .ok (.bool (!b)) w) := by
  have key : (eqGuard op t xo yo u v).run P w = .ok () w ∧ (∀ k a, u ≠ .int k a) ∧ (∀ k a, u ≠ .float k a) ∧ (∀ k a b, u ≠ .complex k a b) ∧ (∀ s, u ≠ .string s) ∧ (∀ n, (Op.equalIn (n + 1) t u v).run P w = .ok b w) := by
    unfold eqP at h
    split at h
    all_goals (try (cases h; done))
    all_goals first
      | (cases h; cases hx; cases hy
         refine ⟨by unfold eqGuard; split <;> rfl, by simp, by simp, by simp, by simp, fun n => ?_⟩
         simp only [Op.equalIn, Sem.run_bind, hu, Result.andThen_ok]; rfl)
      | skip
    cases hc : (isConst xo || isConst yo) with
    | false => rw [hc] at h; cases h
    | true =>
      rw [hc] at h; cases h; cases hx; cases hy
      refine ⟨?_, by simp, by simp, by simp, by simp, fun n => ?_⟩
      · cases xo <;> cases yo <;> first | (cases hc; done) | (cases op <;> rfl)
      · simp only [Op.equalIn, Sem.run_bind, hu, Result.andThen_ok]; rfl
  obtain ⟨h1, h2, h3, h4, h5, h6⟩ := key
  exact ⟨h1, fun e => by subst e; exact binOp_eql_of h2 h3 h4 h5 (equal_of h6), fun e => by subst e; exact binOp_neq_of h2 h3 h4 h5 (equal_of h6)⟩
section
variable {P : Program} {tt : Tab} (T : TabOk P tt) {I : IMap}
include T
theorem binP_ok {op : BinOp} {t : TypeId} {xo yo : Operand} {x y : AV} {u v : Value} {av : AV} (hx : Rel I x u) (hy : Rel I y v) (h : binP tt op t (isConst xo || isConst yo) x y = some av) (w : World) :
    ∃ r, (do eqGuard op t xo yo u v; binOp op t u v : Sem Value).run P w = .ok r w ∧ Rel I av r := by
  unfold binP at h
  split at h
  · cases hx; cases hy
    rename_i k a k' b
    cases hk : sameK k k' with
    | false => rw [hk] at h; cases h
    | true =>
      rw [hk] at h
      have := sameK_eq hk
      subst this
      obtain ⟨r, h1, h2⟩ := cmpP_ok h I P w
      refine ⟨r, ?_, h2⟩
      have hb : binOp op t (.int k a) (.int k b) = Op.intCmp op a b := by
        cases op <;> first | (simp [binOp]; done) | (simp [cmpP] at h; done)
      rw [hb]
      have hg : eqGuard op t xo yo (.int k a) (.int k b) = pure () := by
        unfold eqGuard; split <;> rfl
      rw [hg]
      simpa using h1
  · cases hx; cases hy
    rename_i a b
    split at h <;> cases h
    · rename_i hT
      have hu := run_underlying T hT w
      refine ⟨.bool (a == b), ?_, .v _⟩
      have hg : eqGuard .eql t xo yo (.bool a) (.bool b) = pure () := by unfold eqGuard; split <;> rfl
      rw [hg]
      show (binOp .eql t (.bool a) (.bool b)).run P w = _
      exact binOp_eql_of (by simp) (by simp) (by simp) (by simp) (equal_of fun d => by simp only [Op.equalIn, Sem.run_bind, hu, Result.andThen_ok]; rfl)
    · rename_i hT
      have hu := run_underlying T hT w
      refine ⟨.bool (!(a == b)), ?_, .v _⟩
      have hg : eqGuard .neq t xo yo (.bool a) (.bool b) = pure () := by unfold eqGuard; split <;> rfl
      rw [hg]
      show (binOp .neq t (.bool a) (.bool b)).run P w = _
      exact binOp_neq_of (by simp) (by simp) (by simp) (by simp) (equal_of fun d => by simp only [Op.equalIn, Sem.run_bind, hu, Result.andThen_ok]; rfl)
  · cases hx; cases hy
    rename_i a b
    split at h <;> cases h
    · refine ⟨.bool (decide (a = b)), ?_, .v _⟩
      have hg : eqGuard .eql t xo yo (.string a) (.string b) = pure () := by unfold eqGuard; split <;> rfl
      rw [hg]
      show (binOp .eql t (.string a) (.string b)).run P w = _
      simp only [binOp, Op.stringOp, strEq, Sem.run_pure]
    · refine ⟨.bool (!decide (a = b)), ?_, .v _⟩
      have hg : eqGuard .neq t xo yo (.string a) (.string b) = pure () := by unfold eqGuard; split <;> rfl
      rw [hg]
      show (binOp .neq t (.string a) (.string b)).run P w = _
      simp only [binOp, Op.stringOp, strEq, Sem.run_pure]
  · split at h
    · rename_i i hT
      have hu := run_underlying T hT w
      cases he : eqP i.desc (isConst xo || isConst yo) x y with
      | none => rw [he] at h; cases h
      | some b =>
        rw [he] at h; cases h
        refine ⟨.bool b, ?_, .v _⟩
        obtain ⟨h1, h2⟩ := eqP_ok hx hy he hu .eql
        rw [Sem.run_bind, h1]
        exact h2.1 rfl
    · rename_i i hT
      have hu := run_underlying T hT w
      cases he : eqP i.desc (isConst xo || isConst yo) x y with
      | none => rw [he] at h; cases h
      | some b =>
        rw [he] at h; cases h
        refine ⟨.bool (!b), ?_, .v _⟩
        obtain ⟨h1, h2⟩ := eqP_ok hx hy he hu .neq
        rw [Sem.run_bind, h1]
        exact h2.2 rfl
    · cases h
end
end Ab
