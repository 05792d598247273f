/- What numbers of one to eight bytes are, as lists; no program. It asks nothing. -/
import Derived.Test.YtipdohldogbmnaaDoorAb24
set_option autoImplicit false
set_option linter.unusedVariables false
set_option linter.unusedSimpArgs false
namespace Ab
open Go

abbrev iA (n : Int) : AV := .v (.int .i64 n)
abbrev tA (b : Bool) : AV := .v (.bool b)
theorem iA_eq {a b : Int} (h : a = b) : iA a = iA b := by rw [h]
theorem tA_eq {a b : Bool} (h : a = b) : tA a = tA b := by rw [h]

def vsize (n : Int) : Int := if n < 0 ∨ 4611686018427387903 < n then 0 else if n < 64 then 1 else if n < 16384 then 2 else if n < 1073741824 then 4 else 8
def big (v : Nat) (bs : List UInt8) : Nat := bs.foldl (fun v b => v * 256 + b.toNat) v
theorem big_snoc (v : Nat) (bs : List UInt8) (b : UInt8) : big v (bs ++ [b]) = big v bs * 256 + b.toNat := by simp [big]
theorem big_lt (bs : List UInt8) : ∀ v m : Nat, v < m → big v bs < m * 256 ^ bs.length := by
  induction bs with
  | nil => intro v m h; simpa [big] using h
  | cons b r ih =>
    intro v m h
    have hb := b.toNat_lt
    have := ih (v * 256 + b.toNat) (m * 256) (by have : v * 256 + 256 ≤ m * 256 := by omega
                                                 omega)
    simp only [big, List.foldl_cons] at this ⊢
    rw [List.length_cons, Nat.pow_succ, Nat.mul_comm (256 ^ r.length), ← Nat.mul_assoc]
    exact this
/-- How many bytes a number has, by its first byte. -/
def vw (b : UInt8) : Nat := 2 ^ (b.toNat / 64)
theorem vw_cases (b : UInt8) : vw b = 1 ∨ vw b = 2 ∨ vw b = 4 ∨ vw b = 8 := by
  have hb := b.toNat_lt
  have : b.toNat / 64 = 0 ∨ b.toNat / 64 = 1 ∨ b.toNat / 64 = 2 ∨ b.toNat / 64 = 3 := by omega
  unfold vw
  rcases this with h | h | h | h <;> rw [h] <;> simp
theorem opVw (b : UInt8) : OpR .shl .i64 1 .u8 ((b.toNat / 2 ^ 6 : Nat) : Int) (vw b : Nat) := by
  have hb := b.toNat_lt
  refine (opShl (by omega)).to ?_
  have h6 : b.toNat / 2 ^ 6 = b.toNat / 64 := rfl
  rw [h6]
  have : b.toNat / 64 = 0 ∨ b.toNat / 64 = 1 ∨ b.toNat / 64 = 2 ∨ b.toNat / 64 = 3 := by omega
  unfold vw
  rcases this with h | h | h | h <;> rw [h] <;> rfl
def vread (bs : List UInt8) : Int × Int × Int :=
  match bs with
  | [] => (0, 0, 2)
  | b :: r => if (bs.length : Int) < vw b then (0, 0, 2) else if vsize (big (b.toNat % 64) (r.take (vw b - 1))) = vw b then (big (b.toNat % 64) (r.take (vw b - 1)), vw b, 0) else (0, 0, 3)
theorem vsize_cases {m : Int} (h : vsize m ≠ 0) : vsize m = 1 ∨ vsize m = 2 ∨ vsize m = 4 ∨ vsize m = 8 := by
  unfold vsize at *
  (repeat' split) <;> simp_all
theorem vsize_range {m : Int} (h : vsize m ≠ 0) : 0 < vsize m ∧ vsize m ≤ 8 ∧ 0 ≤ m ∧ m < 2 ^ (8 * (vsize m).toNat - 2) := by
  unfold vsize at *
  by_cases h1 : m < 0 ∨ 4611686018427387903 < m
  · rw [if_pos h1] at h; exact absurd rfl h
  · rw [if_neg h1] at *
    (repeat' split) <;> simp <;> omega
/-- 1, 2, 4, 8 and their places. -/
def zlog (s : Int) : Int := if s = 1 then 0 else if s = 2 then 1 else if s = 4 then 2 else 3
/-- The last bytes of a number, most significant first. -/
def vbl (v : Nat) : Nat → List UInt8
  | 0 => []
  | i + 1 => UInt8.ofNat (v / 256 ^ i % 256) :: vbl v i
theorem vbl_len (v : Nat) : ∀ i, (vbl v i).length = i
  | 0 => rfl
  | i + 1 => by simp [vbl, vbl_len v i]
def vnum (m : Int) : Nat := m.toNat + (zlog (vsize m)).toNat * 2 ^ (8 * (vsize m).toNat - 2)
/-- A number's bytes. -/
def vbytes (m : Int) : List UInt8 := vbl (vnum m) (vsize m).toNat
theorem vbytes_none {m : Int} (h : vsize m = 0) : vbytes m = [] := by unfold vbytes; rw [h]; rfl
theorem opShlN (z k : Nat) (hk : k ≤ 64) (hz : z * 2 ^ k < 18446744073709551616) {k' : IntKind} : OpR .shl .u64 z k' k ((z * 2 ^ k : Nat) : Int) := by
  refine (opShl (by omega)).to ?_
  have e : min (k : Int).toNat IntKind.u64.bits = k := by simp [IntKind.bits]; omega
  have e2 : (z : Int) * 2 ^ k = ((z * 2 ^ k : Nat) : Int) := by simp
  rw [e, e2]
  exact wrapU rfl (Int.natCast_nonneg _) (by simp only [IntKind.bits]; omega)
theorem opOrN (m z k : Nat) (hm : m < 2 ^ k) (hz : m + z * 2 ^ k < 18446744073709551616) : OpR .or .u64 m .u64 ((z * 2 ^ k : Nat) : Int) ((m + z * 2 ^ k : Nat) : Int) := by
  refine opOr.to ?_
  have e : (BitVec.ofInt IntKind.u64.bits (m : Int) ||| BitVec.ofInt IntKind.u64.bits ((z * 2 ^ k : Nat) : Int)).toNat = m + z * 2 ^ k := by
    rw [BitVec.toNat_or]
    simp only [BitVec.ofInt_natCast, BitVec.toNat_ofNat, IntKind.bits]
    rw [Nat.mod_eq_of_lt (by omega), Nat.mod_eq_of_lt (by omega)]
    have := Nat.shiftLeft_add_eq_or_of_lt (i := k) (b := m) hm z
    rw [Nat.shiftLeft_eq] at this
    rw [Nat.or_comm, ← this, Nat.add_comm]
  rw [e]
  exact wrapU rfl (Int.natCast_nonneg _) (by simp only [IntKind.bits]; omega)
theorem opShrN (v i : Nat) (hi : i ≤ 8) {k' : IntKind} : OpR .shr .u64 v k' (8 * (i : Int)) ((v / 256 ^ i : Nat) : Int) := by
  refine (opShr (by omega)).to ?_
  have e : min (8 * (i : Int)).toNat IntKind.u64.bits = 8 * i := by simp [IntKind.bits]; omega
  have e3 : (2 : Nat) ^ (8 * i) = 256 ^ i := by rw [Nat.pow_mul]
  rw [e, show (2 : Int) ^ (8 * i) = ((2 ^ (8 * i) : Nat) : Int) by simp, e3, Int.fdiv_eq_ediv_of_nonneg _ (Int.natCast_nonneg _)]
  simp
theorem wrap8 (x : Nat) : IntKind.u8.wrap (x : Int) = ((UInt8.ofNat (x % 256)).toNat : Int) := by
  have : (UInt8.ofNat (x % 256)).toNat = x % 256 := by simp
  rw [this]
  simp only [IntKind.wrap, IntKind.signed, Bool.false_and, IntKind.bits]
  simp
theorem vnum_lt {m : Int} (h : vsize m ≠ 0) : vnum m < 18446744073709551616 := by
  have hr := vsize_range h
  unfold vnum
  rcases vsize_cases h with e | e | e | e <;> rw [e] at hr ⊢ <;> simp [zlog] at hr ⊢ <;> omega
theorem vread_facts {bs : List UInt8} (h : (vread bs).2.2 = 0) : 0 ≤ (vread bs).1 ∧ (vread bs).1 ≤ 4611686018427387903 ∧ 1 ≤ (vread bs).2.1 ∧ (vread bs).2.1 ≤ bs.length ∧ (vread bs).2.1 ≤ 8 := by
  cases bs with
  | nil => simp [vread] at h
  | cons b r =>
    simp only [vread] at h ⊢
    have hc := vw_cases b
    split at h
    · simp at h
    · rename_i h1
      rw [if_neg h1]
      split at h
      · rename_i h2
        rw [if_pos h2]
        have hne : vsize (big (b.toNat % 64) (r.take (vw b - 1))) ≠ 0 := by rw [h2]; omega
        have h3 : (big (b.toNat % 64) (r.take (vw b - 1)) : Int) ≤ 4611686018427387903 := by
          rcases Int.lt_or_le 4611686018427387903 (big (b.toNat % 64) (r.take (vw b - 1)) : Int) with h4 | h4
          · exact absurd (by unfold vsize; rw [if_pos (.inr h4)]) hne
          · exact h4
        simp only
        omega
      · simp at h
def vtake (bs : List UInt8) : List UInt8 × List UInt8 × Int :=
  if (vread bs).2.2 ≠ 0 then ([], [], (vread bs).2.2) else if (vread bs).1 > bs.length - (vread bs).2.1 then ([], [], 2) else
  (slI bs (vread bs).2.1 ((vread bs).2.1 + (vread bs).1), slI bs ((vread bs).2.1 + (vread bs).1) bs.length, 0)
def vgive (part : List UInt8) : List UInt8 := vbytes part.length ++ part
theorem vbytes_len (m : Int) : (vbytes m).length ≤ 8 := by
  unfold vbytes
  rw [vbl_len]
  by_cases h : vsize m = 0
  · rw [h]; simp
  · have := vsize_range h; omega
theorem opShrI (v i : Nat) (hi : i ≤ 7) {k' : IntKind} : OpR .shr .i64 v k' ((8 * i : Nat) : Int) ((v / 256 ^ i : Nat) : Int) := by
  refine (opShr (by omega)).to ?_
  have e : min ((8 * i : Nat) : Int).toNat IntKind.i64.bits = 8 * i := by simp [IntKind.bits]; omega
  have e3 : (2 : Nat) ^ (8 * i) = 256 ^ i := by rw [Nat.pow_mul]
  rw [e, show (2 : Int) ^ (8 * i) = ((2 ^ (8 * i) : Nat) : Int) by simp, e3, Int.fdiv_eq_ediv_of_nonneg _ (Int.natCast_nonneg _)]
  simp
theorem take_more {α : Type} [Inhabited α] {xs ys : List α} {i : Nat} (hx : i < xs.length) (hy : i < ys.length) (h : xs.take i = ys.take i) (e : xs.getD i default = ys.getD i default) : xs.take (i + 1) = ys.take (i + 1) := by
  rw [List.take_add_one, List.take_add_one, h]
  rw [List.getD_eq_getElem?_getD, List.getD_eq_getElem?_getD, List.getElem?_eq_getElem hx, List.getElem?_eq_getElem hy] at e
  rw [List.getElem?_eq_getElem hx, List.getElem?_eq_getElem hy]
  simp at e
  rw [e]
end Ab
