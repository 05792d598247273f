/- Reading params, step by step, as lists; no program. It asks nothing. -/
import Derived.Test.YtipdohldogbmnaaDoorSp3
set_option autoImplicit false
set_option linter.unusedVariables false
set_option linter.unusedSimpArgs false
namespace Ab
open Go
def pread (b : List UInt8) : Par × Int := if (500 : Int) < b.length then (par0, 4) else match preadR b with | some p => (p, 0) | none => (par0, 3)
def nilS : AV := .v (.slice none 0 0)
structure St10 where (rem : List UInt8) (p : Par) (last : Int) (seen : List Int) (es : List (Int × AV)) (v : AV)
def seenE (l : List Int) : List (Int × AV) := l.map fun n => (n, tA true)
structure St10.ok (tot : Option (Par × List Int)) (q : St10) : Prop where
  tot : ∃ k, q.rem.length ≤ k ∧ preadL k q.p q.last q.seen q.rem = tot
  len : q.rem.length ≤ 500
  es : q.es = seenE q.seen
  le : ∀ n, n ∈ q.seen → n ≤ q.last
  ver : (q.last < 17 ∧ q.v = nilS ∧ q.p.vers = []) ∨ (17 ≤ q.last ∧ q.v = iL q.p.vers ∧ q.p.vers.length ≤ 200)
theorem findI_seen (x : Int) : ∀ l : List Int, ((findI x (seenE l)).getD (.v (.bool false))) = tA (decide (x ∈ l))
  | [] => by simp [seenE, findI]
  | y :: r => by
    have ih := findI_seen x r
    simp only [seenE, List.map_cons, findI] at ih ⊢
    by_cases h : x = y
    · simp [h]
    · rw [if_neg h, ih]; simp [h]
theorem idxI_seen (x : Int) : ∀ (l : List Int) (i : Nat), (∀ n, n ∈ l → n < x) → idxI x (seenE l) i = none
  | [], _, _ => rfl
  | y :: r, i, h => by
    have hy := h y (by simp)
    simp only [seenE, List.map_cons, idxI]
    rw [if_neg (by omega)]
    exact idxI_seen x r (i + 1) fun n hn => h n (by simp [hn])
theorem vtake_rest {b : List UInt8} (h : (vtake b).2.2 = 0) : (vtake b).2.1.length < b.length ∧ (vtake b).1.length ≤ b.length := by
  unfold vtake at h ⊢
  split at h
  · rename_i h1; exact absurd h h1
  · rename_i h1
    rw [if_neg h1]
    have hf := vread_facts (show (vread b).2.2 = 0 by simpa using h1)
    split at h
    · simp at h
    · rename_i h2
      rw [if_neg h2]
      simp only
      rw [slI_lenN (by omega) (by omega) (by omega), slI_lenN (by omega) (by omega) (by omega)]
      omega
section
variable {tot : Option (Par × List Int)} {q : St10}
theorem St10.ok.step (h : q.ok tot) (hne : q.rem ≠ []) : ∃ k, q.rem.length ≤ k + 1 ∧ tot = match pstep q.p q.last q.rem with | none => none | some (p', n, rest) => preadL k p' n (q.seen ++ [n]) rest := by
  obtain ⟨k, h1, h2⟩ := h.tot
  obtain ⟨c, r, hr⟩ : ∃ c r, q.rem = c :: r := by
    cases hq : q.rem with
    | nil => exact absurd hq hne
    | cons c r => exact ⟨c, r, rfl⟩
  rw [hr] at h1 h2 ⊢
  cases k with
  | zero => simp at h1
  | succ k => exact ⟨k, h1, h2.symm⟩
theorem St10.ok.bad (h : q.ok tot) (hne : q.rem ≠ []) (hp : pstep q.p q.last q.rem = none) : tot = none := by
  obtain ⟨k, _, h2⟩ := h.step hne
  rw [h2, hp]
theorem pstep_bad1 {p : Par} {last : Int} {b : List UInt8} (h : (vread b).2.2 ≠ 0 ∨ (vread b).1 ≤ last) : pstep p last b = none := by unfold pstep; rw [if_pos h]
theorem pstep_bad2 {p : Par} {last : Int} {b : List UInt8} (h : (vtake (b.drop (vread b).2.1.toNat)).2.2 ≠ 0) : pstep p last b = none := by
  unfold pstep
  by_cases h1 : (vread b).2.2 ≠ 0 ∨ (vread b).1 ≤ last
  · rw [if_pos h1]
  · rw [if_neg h1, if_pos h]
theorem pstep_bad3 {p : Par} {last : Int} {b : List UInt8} (h : setf p (vread b).1 (vtake (b.drop (vread b).2.1.toNat)).1 = none) : pstep p last b = none := by
  unfold pstep
  split
  · rfl
  · split
    · rfl
    · rw [h]; rfl
theorem pstep_ok {p p' : Par} {last : Int} {b : List UInt8} (h1 : (vread b).2.2 = 0) (h2 : last < (vread b).1) (h3 : (vtake (b.drop (vread b).2.1.toNat)).2.2 = 0) (h : setf p (vread b).1 (vtake (b.drop (vread b).2.1.toNat)).1 = some p') :
    pstep p last b = some (p', (vread b).1, (vtake (b.drop (vread b).2.1.toNat)).2.1) := by
  unfold pstep
  rw [if_neg (by omega), if_neg (by simpa using h3), h]; rfl
/-- The next state. -/
theorem St10.ok.next (h : q.ok tot) (hne : q.rem ≠ []) (h1 : (vread q.rem).2.2 = 0) (h2 : q.last < (vread q.rem).1) (h3 : (vtake (q.rem.drop (vread q.rem).2.1.toNat)).2.2 = 0) {p' : Par} {v' : AV} (hs : setf q.p (vread q.rem).1 (vtake (q.rem.drop (vread q.rem).2.1.toNat)).1 = some p')
    (hv : ((vread q.rem).1 < 17 ∧ v' = nilS ∧ p'.vers = []) ∨ (17 ≤ (vread q.rem).1 ∧ v' = iL p'.vers ∧ p'.vers.length ≤ 200)) :
    St10.ok tot ⟨(vtake (q.rem.drop (vread q.rem).2.1.toNat)).2.1, p', (vread q.rem).1, q.seen ++ [(vread q.rem).1], q.es ++ [((vread q.rem).1, tA true)], v'⟩ := by
  obtain ⟨k, g1, g2⟩ := h.step hne
  have hl := h.len
  have hr := vtake_rest h3
  rw [List.length_drop] at hr
  have hf := vread_facts h1
  rw [pstep_ok h1 h2 h3 hs] at g2
  refine ⟨⟨k, by simp only; omega, g2.symm⟩, by simp only; omega, ?_, fun n hn => ?_, hv⟩
  · simp only; rw [h.es]; simp [seenE]
  · simp only [List.mem_append, List.mem_singleton] at hn ⊢
    rcases hn with hn | rfl
    · have := h.le n hn; omega
    · exact Int.le_refl _
theorem St10.ok.end (h : q.ok tot) (he : q.rem = []) : tot = some (q.p, q.seen) := by
  obtain ⟨k, _, h2⟩ := h.tot
  rw [he] at h2
  cases k <;> exact h2.symm
end
end Ab
