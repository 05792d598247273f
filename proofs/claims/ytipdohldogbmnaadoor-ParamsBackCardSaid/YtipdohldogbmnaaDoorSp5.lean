/- What is read as params is written as it was; no program. It asks nothing. -/
import Derived.Test.YtipdohldogbmnaaDoorSp4
set_option autoImplicit false
set_option linter.unusedVariables false
set_option linter.unusedSimpArgs false
namespace Ab
open Go
def pAw : Par := ⟨5, 6, false, false, false, [], [], [], 1, [1]⟩
theorem pAw_right : pright pAw = true := by
  unfold pright pAw
  simp only [List.mergeSort_singleton]
  decide
theorem pAw_bytes : (if pright pAw then pwrite pAw else []) = [1, 1, 5, 4, 1, 6, 17, 8, 0, 0, 0, 1, 0, 0, 0, 1] := by
  rw [if_pos pAw_right]
  decide
/-! ### Numbers, read and written -/
theorem big_div (bs : List UInt8) : ∀ v : Nat, big v bs / 256 ^ bs.length = v := by
  induction bs with
  | nil => intro v; simp [big]
  | cons c r ih =>
    intro v
    have hc := c.toNat_lt
    have h := ih (v * 256 + c.toNat)
    simp only [big, List.foldl_cons, List.length_cons] at h ⊢
    rw [Nat.pow_succ, ← Nat.div_div_eq_div_mul, h]
    omega
theorem big_add (bs : List UInt8) : ∀ x y : Nat, big (x + y) bs = big x bs + y * 256 ^ bs.length := by
  induction bs with
  | nil => intro x y; simp [big]
  | cons c r ih =>
    intro x y
    have h := ih (x * 256 + c.toNat) (y * 256)
    simp only [big, List.foldl_cons, List.length_cons] at h ⊢
    rw [show (x + y) * 256 + c.toNat = x * 256 + c.toNat + y * 256 by omega, h, Nat.pow_succ, Nat.mul_assoc, Nat.mul_comm (256 ^ r.length)]
theorem vbl_big (bs : List UInt8) : ∀ v : Nat, vbl (big v bs) bs.length = bs := by
  induction bs with
  | nil => intro v; rfl
  | cons c r ih =>
    intro v
    have hc := c.toNat_lt
    have e : big v (c :: r) = big (v * 256 + c.toNat) r := rfl
    rw [e, List.length_cons, vbl, ih, big_div]
    congr 1
    apply UInt8.toNat_inj.1
    simp
theorem vread_bytes {b : List UInt8} (h : (vread b).2.2 = 0) : b = vbytes (vread b).1 ++ b.drop (vread b).2.1.toNat ∧ ((vbytes (vread b).1).length : Int) = (vread b).2.1 := by
  cases b with
  | nil => simp [vread] at h
  | cons c r =>
    simp only [vread] at h ⊢
    have hc := vw_cases c
    have hcl := c.toNat_lt
    split at h
    · simp at h
    · rename_i h1
      rw [if_neg h1]
      split at h
      · rename_i h2
        rw [if_pos h2]
        simp only
        have hlen : (r.take (vw c - 1)).length = vw c - 1 := by simp at h1 ⊢; omega
        have key : vnum (big (c.toNat % 64) (r.take (vw c - 1)) : Nat) = big c.toNat (r.take (vw c - 1)) := by
          unfold vnum
          rw [h2, Int.toNat_natCast, Int.toNat_natCast]
          have hz : (zlog (vw c : Nat)).toNat = c.toNat / 64 := by
            have : c.toNat / 64 = 0 ∨ c.toNat / 64 = 1 ∨ c.toNat / 64 = 2 ∨ c.toNat / 64 = 3 := by omega
            unfold vw
            rcases this with h | h | h | h <;> rw [h] <;> rfl
          have hp : 2 ^ (8 * vw c - 2) = 64 * 256 ^ (vw c - 1) := by
            rcases hc with h | h | h | h <;> rw [h] <;> rfl
          have e2 : c.toNat = c.toNat % 64 + c.toNat / 64 * 64 := by omega
          conv => rhs; rw [e2, big_add, hlen]
          rw [hz, hp, Nat.mul_assoc]
        have hvb : vbytes (big (c.toNat % 64) (r.take (vw c - 1)) : Nat) = c :: r.take (vw c - 1) := by
          unfold vbytes
          rw [key, h2, Int.toNat_natCast]
          have := vbl_big (c :: r.take (vw c - 1)) 0
          rw [List.length_cons, hlen, show vw c - 1 + 1 = vw c by omega] at this
          have e : big 0 (c :: r.take (vw c - 1)) = big c.toNat (r.take (vw c - 1)) := by simp [big]
          rw [e] at this
          exact this
        rw [hvb]
        refine ⟨?_, by rw [List.length_cons, hlen]; omega⟩
        obtain ⟨k, hk⟩ : ∃ k, vw c = k + 1 := ⟨vw c - 1, by omega⟩
        rw [hk]
        simp
      · simp at h
theorem vtake_bytes {b : List UInt8} (h : (vtake b).2.2 = 0) : b = vgive (vtake b).1 ++ (vtake b).2.1 := by
  unfold vtake at h ⊢
  split at h
  · rename_i h1; exact absurd h h1
  · rename_i h1
    rw [if_neg h1]
    have h0 : (vread b).2.2 = 0 := by simpa using h1
    have hf := vread_facts h0
    have hb := vread_bytes h0
    split at h
    · simp at h
    · rename_i h2
      rw [if_neg h2]
      simp only
      have hl : ((slI b (vread b).2.1 ((vread b).2.1 + (vread b).1)).length : Int) = (vread b).1 := by rw [slI_len (by omega) (by omega) (by omega)]; omega
      unfold vgive
      rw [hl, List.append_assoc]
      have e : slI b (vread b).2.1 ((vread b).2.1 + (vread b).1) ++ slI b ((vread b).2.1 + (vread b).1) b.length = b.drop (vread b).2.1.toNat := by
        unfold slI
        obtain ⟨n, hn⟩ : ∃ n : Nat, (vread b).1 = n := ⟨_, (Int.toNat_of_nonneg hf.1).symm⟩
        obtain ⟨s, hs⟩ : ∃ s : Nat, (vread b).2.1 = s := ⟨_, (Int.toNat_of_nonneg (by omega)).symm⟩
        rw [hn, hs]
        have e1 : ((s : Int) + (n : Int)).toNat = s + n := by omega
        rw [e1]
        simp only [Int.toNat_natCast]
        rw [show s + n - s = n by omega, ← List.drop_drop, List.take_of_length_le (l := (b.drop s).drop n) (by simp), List.take_append_drop]
      rw [e]
      exact hb.1
theorem number_bytes {b : List UInt8} (h : isNumber b = true) : vbytes (number b) = b := by
  unfold isNumber at h
  simp only [decide_eq_true_eq] at h
  have hb := vread_bytes h.1
  have hd : b.drop (vread b).2.1.toNat = [] := List.drop_eq_nil_of_le (by omega)
  rw [hd, List.append_nil] at hb
  exact hb.1.symm
theorem chunkL_flat {α : Type} (n : Nat) (bs : List α) : ∀ m : Nat, (chunkL n m bs).flatten = bs.take (m * n) := by
  intro m
  induction m with
  | zero => simp [chunkL]
  | succ m ih =>
    unfold chunkL at ih ⊢
    rw [List.range_succ, List.map_append, List.flatten_append, ih]
    simp only [List.map_cons, List.map_nil, List.flatten_cons, List.flatten_nil, List.append_nil, slI]
    have e1 : ((((m * n : Nat) : Int) + ((n : Nat) : Int))).toNat = m * n + n := by omega
    rw [e1, Int.toNat_natCast, show m * n + n - m * n = n by omega, Nat.add_mul, Nat.one_mul, List.take_add]
theorem nums_bytes {b : List UInt8} (h : 4 ≤ b.length ∧ b.length % 4 = 0) : vbl ((nums b).getD 0 0).toNat 4 ++ (((nums b).drop 1).map fun v => vbl v.toNat 4).flatten = b := by
  have hl := nums_len b
  obtain ⟨x, r, hx⟩ : ∃ x r, nums b = x :: r := by
    cases hn : nums b with
    | nil => rw [hn] at hl; simp at hl; omega
    | cons x r => exact ⟨x, r, rfl⟩
  have e : ((nums b).map fun v => vbl v.toNat 4).flatten = b := by
    have e1 : ((nums b).map fun v => vbl v.toNat 4) = chunkL 4 (b.length / 4) b := by
      unfold nums
      rw [List.map_map]
      conv => rhs; rw [← List.map_id (chunkL 4 (b.length / 4) b)]
      refine List.map_congr_left fun c hc => ?_
      have hcl : c.length = 4 := by
        obtain ⟨i, hi, rfl⟩ := List.mem_map.1 hc
        have := List.mem_range.1 hi
        rw [slI_lenN (by omega) (by omega) (by omega)]; omega
      have := vbl_big c 0
      rw [hcl] at this
      simpa [num4] using this
    rw [e1, chunkL_flat, List.take_of_length_le (by omega)]
  rw [hx] at e ⊢
  simpa using e
/-! ### Fields -/
def pval (p : Par) (n : Int) : List UInt8 :=
  if n = 0 then p.goal else if n = 1 then vbytes p.idle else if n = 4 then vbytes p.data else if n = 15 then p.own else if n = 16 then p.retry else vbl p.chosen.toNat 4 ++ (p.vers.map fun v => vbl v.toNat 4).flatten
def penc (p : Par) (l : List Int) : List UInt8 := (l.map fun n => vbytes n ++ vgive (pval p n)).flatten
structure Pinv (p : Par) (last : Int) (seen : List Int) : Prop where
  le : ∀ n, n ∈ seen → n ≤ last
  srt : seen.Pairwise (· < ·)
  mem : ∀ n, n ∈ seen → n = 0 ∨ n = 1 ∨ n = 4 ∨ n = 15 ∨ n = 16 ∨ n = 17
  hg : p.hg = decide (0 ∈ seen)
  ho : p.ho = decide (15 ∈ seen)
  hr : p.hr = decide (16 ∈ seen)
theorem setf_spec {p p' : Par} {n : Int} {b : List UInt8} (h : setf p n b = some p') : (n = 0 ∨ n = 1 ∨ n = 4 ∨ n = 15 ∨ n = 16 ∨ n = 17) ∧ pval p' n = b ∧ (∀ m, (m = 0 ∨ m = 1 ∨ m = 4 ∨ m = 15 ∨ m = 16 ∨ m = 17) → m ≠ n → pval p' m = pval p m) ∧
    p'.hg = (p.hg || decide (n = 0)) ∧ p'.ho = (p.ho || decide (n = 15)) ∧ p'.hr = (p.hr || decide (n = 16)) := by
  unfold setf at h
  split at h
  · rename_i e; subst e; cases h
    exact ⟨by omega, rfl, fun m hm hn => by rcases hm with h | h | h | h | h | h <;> subst h <;> simp [pval] at hn ⊢, by simp, by simp, by simp⟩
  · split at h
    · rename_i e; subst e
      split at h
      · rename_i hi; cases h
        exact ⟨by omega, number_bytes hi, fun m hm hn => by rcases hm with h | h | h | h | h | h <;> subst h <;> simp [pval] at hn ⊢, by simp, by simp, by simp⟩
      · cases h
    · split at h
      · rename_i e; subst e
        split at h
        · rename_i hi; cases h
          exact ⟨by omega, number_bytes hi, fun m hm hn => by rcases hm with h | h | h | h | h | h <;> subst h <;> simp [pval] at hn ⊢, by simp, by simp, by simp⟩
        · cases h
      · split at h
        · rename_i e; subst e; cases h
          exact ⟨by omega, rfl, fun m hm hn => by rcases hm with h | h | h | h | h | h <;> subst h <;> simp [pval] at hn ⊢, by simp, by simp, by simp⟩
        · split at h
          · rename_i e; subst e; cases h
            exact ⟨by omega, rfl, fun m hm hn => by rcases hm with h | h | h | h | h | h <;> subst h <;> simp [pval] at hn ⊢, by simp, by simp, by simp⟩
          · split at h
            · rename_i e; subst e
              split at h
              · rename_i hi; cases h
                exact ⟨by omega, nums_bytes hi, fun m hm hn => by rcases hm with h | h | h | h | h | h <;> subst h <;> simp [pval] at hn ⊢, by simp, by simp, by simp⟩
              · cases h
            · cases h
theorem pstep_spec {p p' : Par} {last n : Int} {b rest : List UInt8} (h : pstep p last b = some (p', n, rest)) : last < n ∧ setf p n (pval p' n) = some p' ∧ b = vbytes n ++ vgive (pval p' n) ++ rest := by
  unfold pstep at h
  split at h
  · cases h
  · rename_i h1
    split at h
    · cases h
    · rename_i h2
      cases hs : setf p (vread b).1 (vtake (b.drop (vread b).2.1.toNat)).1 with
      | none => rw [hs] at h; cases h
      | some q =>
        rw [hs] at h
        simp only [Option.map_some, Option.some.injEq, Prod.mk.injEq] at h
        obtain ⟨rfl, rfl, rfl⟩ := h
        have hv := (setf_spec hs).2.1
        refine ⟨by omega, by rw [hv]; exact hs, ?_⟩
        rw [hv, List.append_assoc, ← vtake_bytes (show _ = 0 by simpa using h2)]
        exact (vread_bytes (show _ = 0 by omega)).1
theorem preadL_spec : ∀ (k : Nat) (p : Par) (last : Int) (seen : List Int) (b : List UInt8) (x : Par × List Int), preadL k p last seen b = some x → Pinv p last seen → (∃ l, Pinv x.1 l x.2) ∧ penc x.1 x.2 = penc p seen ++ b := by
  intro k
  induction k with
  | zero =>
    intro p last seen b x h hi
    cases b with
    | nil => cases h; exact ⟨⟨_, hi⟩, by simp⟩
    | cons c r => cases h
  | succ k ih =>
    intro p last seen b x h hi
    cases b with
    | nil => cases h; exact ⟨⟨_, hi⟩, by simp⟩
    | cons c r =>
      simp only [preadL] at h
      split at h
      · cases h
      · rename_i p' n rest hp
        obtain ⟨h1, h2, h3⟩ := pstep_spec hp
        obtain ⟨g1, _, g3, g4, g5, g6⟩ := setf_spec h2
        have hmem : ∀ (q : Int), q ≠ n → (q ∈ seen ++ [n] ↔ q ∈ seen) := fun q hq => by simp [hq]
        have hnew : Pinv p' n (seen ++ [n]) := by
          refine ⟨fun m hm => ?_, ?_, fun m hm => ?_, ?_, ?_, ?_⟩
          · rcases List.mem_append.1 hm with hm | hm
            · have := hi.le m hm; omega
            · simp at hm; omega
          · refine List.pairwise_append.2 ⟨hi.srt, List.pairwise_singleton _ _, fun a ha c hc => ?_⟩
            simp at hc; subst hc
            have := hi.le a ha; omega
          · rcases List.mem_append.1 hm with hm | hm
            · exact hi.mem m hm
            · simp at hm; subst hm; exact g1
          · rw [g4, hi.hg]
            by_cases hq : n = 0
            · simp [hq]
            · simp [hq, Ne.symm hq]
          · rw [g5, hi.ho]
            by_cases hq : n = 15
            · simp [hq]
            · simp [hq, Ne.symm hq]
          · rw [g6, hi.hr]
            by_cases hq : n = 16
            · simp [hq]
            · simp [hq, Ne.symm hq]
        obtain ⟨r1, r2⟩ := ih _ _ _ _ _ h hnew
        refine ⟨r1, ?_⟩
        rw [r2, h3]
        have e1 : penc p' (seen ++ [n]) = penc p seen ++ (vbytes n ++ vgive (pval p' n)) := by
          unfold penc
          rw [List.map_append, List.flatten_append]
          congr 1
          · congr 1
            refine List.map_congr_left fun m hm => ?_
            rw [g3 m (hi.mem m hm) (by have := hi.le m hm; omega)]
          · simp
        rw [e1]
        simp [List.append_assoc]
/-- A rising list of fields' numbers is told by what is in it. -/
theorem rising_eq {l : List Int} (hs : l.Pairwise (· < ·)) (hm : ∀ n, n ∈ l → n = 0 ∨ n = 1 ∨ n = 4 ∨ n = 15 ∨ n = 16 ∨ n = 17) :
    l = (if 0 ∈ l then [0] else []) ++ (if 1 ∈ l then [1] else []) ++ (if 4 ∈ l then [4] else []) ++ (if 15 ∈ l then [15] else []) ++ (if 16 ∈ l then [16] else []) ++ (if 17 ∈ l then [17] else []) := by
  have hf : l = ([0, 1, 4, 15, 16, 17] : List Int).filter (fun n => decide (n ∈ l)) := by
    refine List.Perm.eq_of_pairwise (le := fun a b : Int => a < b) (fun a b _ _ h1 h2 => by omega) hs (List.Pairwise.filter _ (by decide)) ?_
    refine (List.perm_ext_iff_of_nodup (hs.imp (fun h => by omega)) (List.Pairwise.filter _ (by decide))).2 fun a => ?_
    simp only [List.mem_filter, decide_eq_true_eq]
    refine ⟨fun h => ⟨?_, h⟩, fun h => h.2⟩
    rcases hm a h with h | h | h | h | h | h <;> subst h <;> simp
  conv => lhs; rw [hf]
  simp only [List.filter_cons, List.filter_nil, decide_eq_true_eq]
  split <;> split <;> split <;> split <;> split <;> split <;> simp
theorem pread_ok {b : List UInt8} (h : (pread b).2 = 0) : ∃ x, preadL b.length par0 (-1) [] b = some x ∧ pall x = true ∧ pread b = (x.1, 0) := by
  unfold pread at h ⊢
  by_cases h5 : (500 : Int) < b.length
  · rw [if_pos h5] at h; simp at h
  · rw [if_neg h5] at h ⊢
    unfold preadR at h ⊢
    cases hy : preadL b.length par0 (-1) [] b with
    | none => rw [hy] at h; simp at h
    | some y =>
      rw [hy] at h
      simp only at h ⊢
      by_cases hall : pall y = true
      · rw [if_pos hall] at h ⊢
        exact ⟨y, rfl, hall, rfl⟩
      · rw [if_neg hall] at h; simp at h
theorem again_law {b : List UInt8} (h : (pread b).2 = 0) : (if pright (pread b).1 then pwrite (pread b).1 else []) = b := by
  obtain ⟨y, hy, hall, e⟩ := pread_ok h
  rw [e]
  unfold pall at hall
  simp only [Bool.and_eq_true, decide_eq_true_eq] at hall
  obtain ⟨⟨⟨m1, m4⟩, m17⟩, hr⟩ := hall
  rw [if_pos hr]
  obtain ⟨⟨l, hi⟩, he⟩ := preadL_spec _ _ _ _ _ _ hy ⟨by simp, .nil, by simp, rfl, rfl, rfl⟩
  have e0 : penc par0 [] = [] := rfl
  rw [e0, List.nil_append] at he
  conv => rhs; rw [← he, rising_eq hi.srt hi.mem]
  unfold pwrite penc
  rw [hi.hg, hi.ho, hi.hr, if_pos m1, if_pos m4, if_pos m17]
  simp only [decide_eq_true_eq]
  split <;> split <;> split <;> simp [pval]
theorem pread_vers {b : List UInt8} (h : (pread b).2 = 0) : (pread b).1.vers.length ≤ 1000 := by
  obtain ⟨y, hy, hall, e⟩ := pread_ok h
  rw [e]
  unfold pall at hall
  simp only [Bool.and_eq_true, decide_eq_true_eq] at hall
  have := (pright_of hall.2).2.2.2.2.1
  simp only
  omega
end Ab
