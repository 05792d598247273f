/- Parts of slices whose bounds are read off the slots. They ask that a table of types is the program's. -/
import Derived.Test.YtipdohldogbmnaaDoorAb17
set_option autoImplicit false
set_option linter.unusedVariables false
set_option linter.unusedSimpArgs false
namespace Ab
open Go Go.RowKit

def bndP (l : Env) (d : Int) : Option Operand → Option Int
  | none => some d
  | some x => (match ev l x with | .v (.int k i) => (match k with | .i64 => some i | _ => none) | _ => none)
/-- A part of a list. -/
def slI {α : Type} (xs : List α) (a b : Int) : List α := (xs.drop a.toNat).take (b.toNat - a.toNat)
theorem slI_len {α : Type} {xs : List α} {a b : Int} (h0 : 0 ≤ a) (h1 : a ≤ b) (h2 : b ≤ xs.length) : ((slI xs a b).length : Int) = b - a := by simp [slI]; omega
theorem slI_lenN {α : Type} {xs : List α} {a b : Int} (h0 : 0 ≤ a) (h1 : a ≤ b) (h2 : b ≤ xs.length) : (slI xs a b).length = b.toNat - a.toNat := by simp [slI]; omega

section rules
variable {P : Program} {tt : Tab} {w0 : World} {ro : Option Nat} {n : Nat} {M : List Seg} {l : Env}
variable {d : Option Tmp} {ty : TypeId}
theorem bndP_ok {lo : Option Operand} {z a : Int} (h : bndP l z lo = some a) : ∃ o : Option Int, boundE l lo o ∧ o.getD z = a := by
  cases lo with
  | none => cases h; exact ⟨none, trivial, rfl⟩
  | some x =>
    simp only [bndP] at h
    split at h
    · split at h
      · rename_i i hx
        cases h
        exact ⟨some a, hx, rfl⟩
      · cases h
    · cases h
theorem Rdp.slA (T : TabOk P tt) {α : Type} {xs : List α} {f : α → List AV} {t e : TypeId} {i j : TI} {x : Operand} {size : Nat} {lo hi' : Option Operand} {a b : Int} (hx : ev l x = .sl size xs.length (xs.map f)) (hlo : bndP l 0 lo = some a) (hhi : bndP l xs.length hi' = some b)
    (hi : tlook tt t = some i) (hd : i.desc = .slice e) (hj : tlook tt e = some j) (hz : j.size = size) (h0 : 0 ≤ a) (h1 : a ≤ b) (h2 : b ≤ xs.length) :
    Rdp P w0 n M l ⟨d, .slice t x lo hi' none, ty, none⟩ (.sl size (slI xs a b).length ((slI xs a b).map f)) := by
  obtain ⟨o1, g1, g2⟩ := bndP_ok hlo
  obtain ⟨o2, g3, g4⟩ := bndP_ok hhi
  exact Rdp.slM T hx g1 g3 hi hd hj hz (p := a.toNat) (q := b.toNat) (by omega) (by omega) (by omega) (by omega)
/-- A place that a natural number names. -/
theorem Rdp.ixN (T : TabOk P tt) {α : Type} [Inhabited α] {xs : List α} {f : α → List AV} {t e : TypeId} {x y : Operand} {i j : TI} {size : Nat} {k : IntKind} {q : Nat} (hx : ev l x = .sl size xs.length (xs.map f)) (hy : ev l y = .v (.int k (q : Nat)))
    (hi : tlook tt t = some i) (hd : i.desc = .slice e) (hj : tlook tt e = some j) (hz : j.size = size) (h1 : q < xs.length) : Rdp P w0 n M l ⟨d, .indexAddr t x y, ty, none⟩ (.ref (f (xs.getD q default))) :=
  Rdp.ixM T hx hy hi hd hj hz (by omega) (by omega)
end rules

/-! ### Bytes as numbers -/
theorem wrapU {k : IntKind} (hk : k.signed = false) {a : Int} (h0 : 0 ≤ a) (h1 : a < 2 ^ k.bits) : k.wrap a = a := by
  simp only [IntKind.wrap, hk, Bool.false_and]
  exact Int.emod_eq_of_lt h0 h1
theorem wrapS64 {a : Int} (h0 : -9223372036854775808 ≤ a) (h1 : a ≤ 9223372036854775807) : IntKind.i64.wrap a = a := IntWalk.i64_in _ (by omega)
theorem u8_lt (b : UInt8) : b.toNat < 256 := b.toNat_lt
theorem opShr8 (b : UInt8) (k : Nat) (hk : k ≤ 8) {k' : IntKind} : OpR .shr .u8 b.toNat k' k ((b.toNat / 2 ^ k : Nat) : Int) := by
  refine (opShr (by omega)).to ?_
  have : min (k : Int).toNat IntKind.u8.bits = k := by simp [IntKind.bits]; omega
  rw [this, show (2 : Int) ^ k = ((2 ^ k : Nat) : Int) by simp, Int.fdiv_eq_ediv_of_nonneg _ (Int.natCast_nonneg _)]
  simp
theorem opAnd8 (b : UInt8) (k : Nat) (hk : k ≤ 8) : OpR .and .u8 b.toNat .u8 ((2 ^ k - 1 : Nat) : Int) ((b.toNat % 2 ^ k : Nat) : Int) := by
  refine opAnd.to ?_
  have hb := u8_lt b
  have h2 : 2 ^ k ≤ 256 := by
    have : 2 ^ k ≤ 2 ^ 8 := Nat.pow_le_pow_right (by omega) hk
    omega
  have h1 : 0 < 2 ^ k := Nat.pow_pos (by omega)
  have e : (BitVec.ofInt IntKind.u8.bits (b.toNat : Int) &&& BitVec.ofInt IntKind.u8.bits ((2 ^ k - 1 : Nat) : Int)).toNat = b.toNat % 2 ^ k := by
    rw [BitVec.toNat_and, ← Nat.and_two_pow_sub_one_eq_mod]
    simp only [BitVec.ofInt_natCast, BitVec.toNat_ofNat, IntKind.bits]
    congr 1
    · exact Nat.mod_eq_of_lt hb
    · exact Nat.mod_eq_of_lt (by omega)
  rw [e]
  have hlt : b.toNat % 2 ^ k < 256 := Nat.lt_of_le_of_lt (Nat.mod_le _ _) hb
  exact wrapU rfl (Int.natCast_nonneg _) (by simp only [IntKind.bits]; omega)
/-- Eight bits more. -/
theorem opShl8 (v : Nat) (hv : v * 256 < 18446744073709551616) {k' : IntKind} : OpR .shl .u64 v k' 8 ((v * 256 : Nat) : Int) := by
  refine (opShl (by omega)).to ?_
  simp only [IntKind.wrap, IntKind.bits, IntKind.signed, Bool.false_and, if_false]
  simp
  omega
theorem opOr8 (v : Nat) (b : Nat) (hb : b < 256) (hv : v * 256 < 18446744073709551616) : OpR .or .u64 ((v * 256 : Nat) : Int) .u64 b ((v * 256 + b : Nat) : Int) := by
  refine opOr.to ?_
  have e : (BitVec.ofInt IntKind.u64.bits ((v * 256 : Nat) : Int) ||| BitVec.ofInt IntKind.u64.bits (b : Int)).toNat = v * 256 + b := by
    rw [BitVec.toNat_or]
    simp only [BitVec.ofInt_natCast, BitVec.toNat_ofNat, IntKind.bits]
    rw [Nat.mod_eq_of_lt (by omega), Nat.mod_eq_of_lt (by omega)]
    have := Nat.shiftLeft_add_eq_or_of_lt (i := 8) (b := b) (by omega) v
    rw [Nat.shiftLeft_eq] at this
    exact this.symm
  rw [e]
  exact wrapU rfl (by omega) (by simp only [IntKind.bits]; omega)
end Ab
