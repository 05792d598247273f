/- What bytes say as params, as lists; no program. It asks nothing. -/
import Derived.Test.YtipdohldogbmnaaDoorSp2
import Derived.Test.YtipdohldogbmnaaDoorAb26
set_option autoImplicit false
set_option linter.unusedVariables false
set_option maxRecDepth 4000
set_option linter.unusedSimpArgs false
namespace Ab
open Go
/-- Parts of one length. -/
def chunkL {α : Type} (n m : Nat) (bs : List α) : List (List α) := (List.range m).map fun i => slI bs ((i * n : Nat) : Int) (((i * n : Nat) : Int) + ((n : Nat) : Int))
theorem chunkL_len {α : Type} (n m : Nat) (bs : List α) : (chunkL n m bs).length = m := by simp [chunkL]
theorem chunkL_get {α : Type} {n m i : Nat} {bs : List α} (hi : i < m) : (chunkL n m bs).getD i [] = slI bs ((i * n : Nat) : Int) (((i * n : Nat) : Int) + ((n : Nat) : Int)) := by
  rw [List.getD_eq_getElem?_getD, chunkL, List.getElem?_map, List.getElem?_range hi]; rfl
def num4 (b : List UInt8) : Int := (big 0 b : Nat)
def nums (b : List UInt8) : List Int := (chunkL 4 (b.length / 4) b).map num4
theorem nums_len (b : List UInt8) : (nums b).length = b.length / 4 := by simp [nums, chunkL_len]
def version (n : Int) : Bool := decide (1 ≤ n) && decide (n < 4294967296)
def named (there : Bool) (b : List UInt8) : Bool := decide ((b.length : Int) ≤ 20) && (there || decide ((b.length : Int) = 0))
def idxOf (p : Int → Bool) : List Int → Int → Int
  | [], _ => -1
  | x :: r, i => if p x then i else idxOf p r (i + 1)
theorem idxOf_iff (p : Int → Bool) : ∀ (xs : List Int) (i : Int), 0 ≤ i → (0 ≤ idxOf p xs i ↔ xs.any p = true) := by
  intro xs
  induction xs with
  | nil => intro i hi; simp [idxOf]
  | cons x r ih =>
    intro i hi
    simp only [idxOf, List.any_cons]
    split
    · rename_i h; simp [hi, h]
    · rename_i h; simp [ih (i + 1) (by omega), h]
theorem idxOf_any (p : Int → Bool) (xs : List Int) (i : Int) (hi : 0 ≤ i) : decide (0 ≤ idxOf p xs i) = xs.any p := by
  rw [Bool.eq_iff_iff, decide_eq_true_iff]; exact idxOf_iff p xs i hi
/-- Elements each of which is not the one ahead: what is kept of the first ones. -/
def keepL (xs : List Int) : Nat → List Int
  | 0 => []
  | 1 => xs.take 1
  | i + 2 => if xs.getD i default = xs.getD (i + 1) default then keepL xs (i + 1) else keepL xs (i + 1) ++ [xs.getD (i + 1) default]
theorem keepL_len (xs : List Int) : ∀ i, i ≤ xs.length → (keepL xs i).length ≤ i
  | 0, _ => Nat.le_refl _
  | 1, _ => by simp [keepL]; omega
  | i + 2, h => by
    have := keepL_len xs (i + 1) (by omega)
    simp only [keepL]
    split
    · omega
    · simp; omega
def pright (p : Par) : Bool :=
  !decide (vsize p.idle = 0) && !decide (vsize p.data = 0) && version p.chosen && named p.hg p.goal && named p.ho p.own && named p.hr p.retry &&
  decide ((p.vers.length : Int) ≤ 16) && !p.vers.any (fun n => !version n) && decide (((keepL (p.vers.mergeSort fun x y => decide (x ≤ y)) p.vers.length).length : Int) = (p.vers.length : Int))
def setf (p : Par) (n : Int) (b : List UInt8) : Option Par :=
  if n = 0 then some { p with hg := true, goal := b } else
  if n = 1 then (if isNumber b then some { p with idle := number b } else none) else
  if n = 4 then (if isNumber b then some { p with data := number b } else none) else
  if n = 15 then some { p with ho := true, own := b } else
  if n = 16 then some { p with hr := true, retry := b } else
  if n = 17 then (if 4 ≤ b.length ∧ b.length % 4 = 0 then some { p with chosen := (nums b).getD 0 0, vers := (nums b).drop 1 } else none) else none
def pstep (p : Par) (last : Int) (b : List UInt8) : Option (Par × Int × List UInt8) :=
  if (vread b).2.2 ≠ 0 ∨ (vread b).1 ≤ last then none else
  if (vtake (b.drop (vread b).2.1.toNat)).2.2 ≠ 0 then none else
  (setf p (vread b).1 (vtake (b.drop (vread b).2.1.toNat)).1).map fun p' => (p', (vread b).1, (vtake (b.drop (vread b).2.1.toNat)).2.1)
def preadL : Nat → Par → Int → List Int → List UInt8 → Option (Par × List Int)
  | _, p, _, seen, [] => some (p, seen)
  | 0, _, _, _, _ :: _ => none
  | k + 1, p, last, seen, c :: b => match pstep p last (c :: b) with | none => none | some (p', n, rest) => preadL k p' n (seen ++ [n]) rest
def par0 : Par := ⟨0, 0, false, false, false, [], [], [], 0, []⟩
def pall (x : Par × List Int) : Bool := decide (1 ∈ x.2) && decide (4 ∈ x.2) && decide (17 ∈ x.2) && pright x.1
def preadR (b : List UInt8) : Option Par := match preadL b.length par0 (-1) [] b with | none => none | some x => if pall x then some x.1 else none
def pwrite (p : Par) : List UInt8 :=
  (if p.hg then vbytes 0 ++ vgive p.goal else []) ++ (vbytes 1 ++ vgive (vbytes p.idle)) ++ (vbytes 4 ++ vgive (vbytes p.data)) ++ (if p.ho then vbytes 15 ++ vgive p.own else []) ++ (if p.hr then vbytes 16 ++ vgive p.retry else []) ++
    (vbytes 17 ++ vgive (vbl p.chosen.toNat 4 ++ (p.vers.map fun v => vbl v.toNat 4).flatten))
theorem vgive_len (b : List UInt8) : (vgive b).length ≤ b.length + 8 := by
  have := vbytes_len b.length
  simp [vgive]; omega
theorem version_of {n : Int} (h : version n = true) : 1 ≤ n ∧ n < 4294967296 := by simpa [version] using h
theorem pright_of {p : Par} (h : pright p = true) : version p.chosen = true ∧ (∀ v, v ∈ p.vers → version v = true) ∧ vsize p.idle ≠ 0 ∧ vsize p.data ≠ 0 ∧ p.vers.length ≤ 16 ∧ p.goal.length ≤ 20 ∧ p.own.length ≤ 20 ∧ p.retry.length ≤ 20 := by
  unfold pright named at h
  simp only [Bool.and_eq_true, Bool.not_eq_true', decide_eq_true_eq, decide_eq_false_iff_not] at h
  obtain ⟨⟨⟨⟨⟨⟨⟨⟨h1, h2⟩, h3⟩, h4⟩, h5⟩, h6⟩, h7⟩, h8⟩, h9⟩ := h
  refine ⟨h3, fun v hv => ?_, h1, h2, by omega, by omega, by omega, by omega⟩
  have := List.any_eq_false.1 h8 v hv
  simpa using this
theorem opShlI (v : Nat) (hv : v * 256 < 9223372036854775808) {k' : IntKind} : OpR .shl .i64 v k' 8 ((v * 256 : Nat) : Int) := by
  refine (opShl (by omega)).to ?_
  have e : min (8 : Int).toNat IntKind.i64.bits = 8 := rfl
  rw [e, show (v : Int) * 2 ^ 8 = ((v * 256 : Nat) : Int) by rw [show (2 : Int) ^ 8 = 256 from rfl]; omega]
  exact wrapS64 (by omega) (by omega)
theorem opOrI (v : Nat) (b : Nat) (hb : b < 256) (hv : v * 256 + b < 9223372036854775808) : OpR .or .i64 ((v * 256 : Nat) : Int) .i64 b ((v * 256 + b : Nat) : Int) := by
  have g1 : v * 256 < 18446744073709551616 := by omega
  have g2 : b < 18446744073709551616 := by omega
  have g3 : -9223372036854775808 ≤ ((v * 256 + b : Nat) : Int) := by omega
  have g4 : ((v * 256 + b : Nat) : Int) ≤ 9223372036854775807 := by omega
  clear hv
  refine opOr.to ?_
  have e : (BitVec.ofInt IntKind.i64.bits ((v * 256 : Nat) : Int) ||| BitVec.ofInt IntKind.i64.bits (b : Int)).toNat = v * 256 + b := by
    rw [BitVec.toNat_or]
    simp only [BitVec.ofInt_natCast, BitVec.toNat_ofNat, IntKind.bits]
    rw [show (2 : Nat) ^ 64 = 18446744073709551616 from rfl, Nat.mod_eq_of_lt g1, Nat.mod_eq_of_lt g2]
    have := Nat.shiftLeft_add_eq_or_of_lt (i := 8) (b := b) hb v
    rw [Nat.shiftLeft_eq] at this
    exact this.symm
  rw [e]
  exact wrapS64 g3 g4
end Ab
