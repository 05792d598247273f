/- What is written as params is read as it was; no program. It asks nothing. -/
import Derived.Test.YtipdohldogbmnaaDoorSp5
set_option autoImplicit false
set_option linter.unusedVariables false
set_option linter.unusedSimpArgs false
namespace Ab
open Go
theorem big_vbl (v : Nat) : ∀ k x : Nat, big x (vbl v k) = x * 256 ^ k + v % 256 ^ k := by
  intro k
  induction k with
  | zero => intro x; simp [big, vbl, Nat.mod_one]
  | succ k ih =>
    intro x
    have e : big x (vbl v (k + 1)) = big (x * 256 + v / 256 ^ k % 256) (vbl v k) := by
      simp [big, vbl, UInt8.toNat_ofNat']
    rw [e, ih, Nat.mod_pow_succ, Nat.pow_succ]
    have e2 : (x * 256 + v / 256 ^ k % 256) * 256 ^ k = x * (256 ^ k * 256) + 256 ^ k * (v / 256 ^ k % 256) := by
      rw [Nat.add_mul, Nat.mul_assoc, Nat.mul_comm 256, Nat.mul_comm (v / 256 ^ k % 256)]
    omega
theorem vread_vbl {n : Int} {s k : Nat} (z : Nat) (r : List UInt8) (hs : vsize n = (s : Nat)) (hk : s = k + 1) (hz : 2 ^ z = s) (hz4 : z < 4) (hn : 0 ≤ n) (hlt : n.toNat < 64 * 256 ^ k) (hv : vnum n = n.toNat + z * (64 * 256 ^ k)) :
    vread (vbytes n ++ r) = (n, ((vbytes n).length : Int), 0) := by
  have h64 : (vnum n) / 256 ^ k = n.toNat / 256 ^ k + z * 64 := by
    rw [hv, show z * (64 * 256 ^ k) = 256 ^ k * (z * 64) by rw [← Nat.mul_assoc, Nat.mul_comm], Nat.add_mul_div_left _ _ (Nat.pow_pos (by decide))]
  have hq : n.toNat / 256 ^ k < 64 := Nat.div_lt_of_lt_mul (by rw [Nat.mul_comm]; exact hlt)
  have hm : vnum n % 256 ^ k = n.toNat % 256 ^ k := by
    rw [hv, show z * (64 * 256 ^ k) = 256 ^ k * (z * 64) by rw [← Nat.mul_assoc, Nat.mul_comm], Nat.add_mul_mod_self_left]
  have hb : vbytes n = UInt8.ofNat (vnum n / 256 ^ k % 256) :: vbl (vnum n) k := by
    unfold vbytes; rw [hs, Int.toNat_natCast, hk]; rfl
  have hc : (UInt8.ofNat (vnum n / 256 ^ k % 256)).toNat = n.toNat / 256 ^ k + z * 64 := by
    rw [UInt8.toNat_ofNat', h64]
    generalize n.toNat / 256 ^ k = q at hq ⊢
    omega
  have hlen : ((vbytes n).length : Int) = s := by rw [hb, List.length_cons, vbl_len, hk]
  generalize hcc : UInt8.ofNat (vnum n / 256 ^ k % 256) = c at hb hc
  have hw : vw c = s := by
    unfold vw; rw [hc, show (n.toNat / 256 ^ k + z * 64) / 64 = z by generalize n.toNat / 256 ^ k = q at hq ⊢; omega, hz]
  rw [hlen, hb, List.cons_append]
  simp only [vread]
  have htk : (vbl (vnum n) k ++ r).take (vw c - 1) = vbl (vnum n) k := by
    rw [hw, hk, Nat.add_sub_cancel]
    have := vbl_len (vnum n) k
    rw [List.take_append_of_le_length (by omega), List.take_of_length_le (by omega)]
  have hbig : ((big (c.toNat % 64) (vbl (vnum n) k) : Nat) : Int) = n := by
    rw [big_vbl, hm, hc, show (n.toNat / 256 ^ k + z * 64) % 64 = n.toNat / 256 ^ k by generalize n.toNat / 256 ^ k = q at hq ⊢; omega]
    have := Nat.div_add_mod n.toNat (256 ^ k)
    rw [Nat.mul_comm] at this
    omega
  rw [if_neg (by rw [hw, List.length_cons, List.length_append, vbl_len]; omega), htk, hbig, if_pos (by rw [hw]; exact hs), hw]
theorem vread_vbytes {n : Int} (h : vsize n ≠ 0) (r : List UInt8) : vread (vbytes n ++ r) = (n, ((vbytes n).length : Int), 0) := by
  have hr := vsize_range h
  rcases vsize_cases h with e | e | e | e <;> rw [e] at hr
  · exact vread_vbl (s := 1) (k := 0) 0 r e rfl rfl (by decide) hr.2.2.1 (by simp at hr ⊢; omega) (by unfold vnum; rw [e]; simp [zlog])
  · exact vread_vbl (s := 2) (k := 1) 1 r e rfl rfl (by decide) hr.2.2.1 (by simp at hr ⊢; omega) (by unfold vnum; rw [e]; simp [zlog])
  · exact vread_vbl (s := 4) (k := 3) 2 r e rfl rfl (by decide) hr.2.2.1 (by simp at hr ⊢; omega) (by unfold vnum; rw [e]; simp [zlog])
  · exact vread_vbl (s := 8) (k := 7) 3 r e rfl rfl (by decide) hr.2.2.1 (by simp at hr ⊢; omega) (by unfold vnum; rw [e]; simp [zlog])
theorem vsize_small {n : Nat} (h : n ≤ 4611686018427387903) : vsize (n : Int) ≠ 0 := by
  unfold vsize
  rw [if_neg (by omega)]
  (repeat' split) <;> omega
theorem vtake_vgive {v : List UInt8} (h : v.length ≤ 4611686018427387903) (r : List UInt8) : vtake (vgive v ++ r) = (v, r, 0) := by
  unfold vtake
  have e := vread_vbytes (vsize_small h) (v ++ r)
  have e0 : vgive v ++ r = vbytes v.length ++ (v ++ r) := by simp [vgive]
  rw [e0, e]
  simp only
  rw [if_neg (by simp), if_neg (by simp; omega)]
  congr 1
  · unfold slI
    have e1 : (((vbytes v.length).length : Int) + (v.length : Int)).toNat = (vbytes v.length).length + v.length := by omega
    rw [e1, Int.toNat_natCast, List.drop_left, Nat.add_sub_cancel_left, List.take_left]
  · congr 1
    unfold slI
    have e1 : (((vbytes v.length).length : Int) + (v.length : Int)).toNat = (vbytes v.length).length + v.length := by omega
    rw [e1, ← List.append_assoc, show (vbytes v.length).length + v.length = (vbytes v.length ++ v).length by simp, List.drop_left]
    exact List.take_of_length_le (by simp; omega)
theorem isNumber_vbytes {n : Int} (h : vsize n ≠ 0) : isNumber (vbytes n) = true ∧ number (vbytes n) = n := by
  have e := vread_vbytes h []
  rw [List.append_nil] at e
  unfold isNumber number
  rw [e]
  simp
theorem chunkL_cons {x r : List UInt8} (h : x.length = 4) (m : Nat) : chunkL 4 (m + 1) (x ++ r) = x :: chunkL 4 m r := by
  unfold chunkL
  rw [List.range_succ_eq_map, List.map_cons, List.map_map]
  congr 1
  · unfold slI
    simp [← h]
  · refine List.map_congr_left fun i _ => ?_
    simp only [Function.comp, slI]
    have e1 : ((((i.succ * 4 : Nat) : Int) + ((4 : Nat) : Int))).toNat = i * 4 + 4 + 4 := by omega
    have e2 : ((((i * 4 : Nat) : Int) + ((4 : Nat) : Int))).toNat = i * 4 + 4 := by omega
    rw [e1, e2, Int.toNat_natCast, Int.toNat_natCast, show i.succ * 4 = x.length + i * 4 by omega, ← List.drop_drop, List.drop_left]
    congr 1
    omega
theorem nums_cons {x r : List UInt8} (h : x.length = 4) : nums (x ++ r) = num4 x :: nums r := by
  unfold nums
  rw [List.length_append, h, show (4 + r.length) / 4 = r.length / 4 + 1 by omega, chunkL_cons h, List.map_cons]
theorem num4_vbl {v : Int} (h : 0 ≤ v ∧ v < 4294967296) : num4 (vbl v.toNat 4) = v := by
  unfold num4
  rw [big_vbl]
  omega
theorem nums_vbl : ∀ l : List Int, (∀ v, v ∈ l → 0 ≤ v ∧ v < 4294967296) → nums ((l.map fun v => vbl v.toNat 4).flatten) = l ∧ ((l.map fun v => vbl v.toNat 4).flatten).length = 4 * l.length
  | [], _ => ⟨rfl, rfl⟩
  | x :: r, h => by
    obtain ⟨h1, h2⟩ := nums_vbl r fun v hv => h v (List.mem_cons_of_mem _ hv)
    rw [List.map_cons, List.flatten_cons]
    exact ⟨by rw [nums_cons (vbl_len _ _), num4_vbl (h x (List.mem_cons_self ..)), h1], by rw [List.length_append, vbl_len, h2, List.length_cons]; omega⟩
/-! ### Fields, one after the other -/
def encF (fs : List (Int × List UInt8)) : List UInt8 := (fs.map fun f => vbytes f.1 ++ vgive f.2).flatten
def runF : Par → List (Int × List UInt8) → Option Par
  | p, [] => some p
  | p, f :: r => match setf p f.1 f.2 with | none => none | some q => runF q r
theorem vbytes_cons {n : Int} (h : vsize n ≠ 0) : ∃ c r, vbytes n = c :: r := by
  have := vsize_range h
  have hl : (vbytes n).length = (vsize n).toNat := vbl_len _ _
  cases hb : vbytes n with
  | nil => rw [hb] at hl; simp at hl; omega
  | cons c r => exact ⟨c, r, rfl⟩
theorem pstep_enc {p : Par} {last n : Int} {v r : List UInt8} (hn : vsize n ≠ 0) (hl : last < n) (hv : v.length ≤ 4611686018427387903) : pstep p last (vbytes n ++ vgive v ++ r) = (setf p n v).map fun p' => (p', n, r) := by
  unfold pstep
  rw [List.append_assoc, vread_vbytes hn]
  simp only [Int.toNat_natCast, List.drop_left]
  rw [if_neg (by omega), vtake_vgive hv]
  simp
theorem preadL_enc : ∀ (fs : List (Int × List UInt8)) (k : Nat) (p : Par) (last : Int) (seen : List Int), fs.length ≤ k → (∀ f, f ∈ fs → vsize f.1 ≠ 0 ∧ f.2.length ≤ 4611686018427387903) → (last :: fs.map (·.1)).Pairwise (· < ·) →
    preadL k p last seen (encF fs) = (runF p fs).map fun q => (q, seen ++ fs.map (·.1)) := by
  intro fs
  induction fs with
  | nil => intro k p last seen _ _ _; cases k <;> simp [encF, preadL, runF]
  | cons f r ih =>
    intro k p last seen hk hf hs
    obtain ⟨k, rfl⟩ : ∃ j, k = j + 1 := ⟨k - 1, by simp at hk; omega⟩
    obtain ⟨g1, g2⟩ := hf f (List.mem_cons_self ..)
    obtain ⟨c, t, hc⟩ := vbytes_cons g1
    have e : encF (f :: r) = vbytes f.1 ++ vgive f.2 ++ encF r := by simp [encF]
    have hs' := List.pairwise_cons.1 hs
    have hst := pstep_enc (p := p) (r := encF r) g1 (hs'.1 f.1 (by simp)) g2
    rw [e]
    rw [hc] at hst ⊢
    simp only [List.cons_append] at hst ⊢
    simp only [preadL, hst, runF]
    cases setf p f.1 f.2 with
    | none => rfl
    | some q =>
      simp only [Option.map_some]
      rw [ih k q f.1 (seen ++ [f.1]) (by simp at hk; omega) (fun g hg => hf g (List.mem_cons_of_mem _ hg)) (by simpa using hs'.2)]
      simp
def fieldsP (p : Par) : List (Int × List UInt8) :=
  (if p.hg then [(0, p.goal)] else []) ++ [(1, vbytes p.idle), (4, vbytes p.data)] ++ (if p.ho then [(15, p.own)] else []) ++ (if p.hr then [(16, p.retry)] else []) ++ [(17, vbl p.chosen.toNat 4 ++ (p.vers.map fun v => vbl v.toNat 4).flatten)]
theorem pwrite_enc (p : Par) : pwrite p = encF (fieldsP p) := by
  unfold pwrite fieldsP encF
  cases p.hg <;> cases p.ho <;> cases p.hr <;> simp
theorem named_of {t : Bool} {b : List UInt8} (h : named t b = true) : t = false → b = [] := by
  rintro rfl
  unfold named at h
  simp at h
  exact h.2
theorem pright_named {p : Par} (h : pright p = true) : named p.hg p.goal = true ∧ named p.ho p.own = true ∧ named p.hr p.retry = true := by
  unfold pright at h
  simp only [Bool.and_eq_true] at h
  obtain ⟨⟨⟨⟨⟨⟨⟨⟨h1, h2⟩, h3⟩, h4⟩, h5⟩, h6⟩, h7⟩, h8⟩, h9⟩ := h
  exact ⟨h4, h5, h6⟩
theorem verL_len (l : List Int) : ((l.map fun v => vbl v.toNat 4).flatten).length = 4 * l.length := by
  induction l with
  | nil => rfl
  | cons x r ih => rw [List.map_cons, List.flatten_cons, List.length_append, vbl_len, ih, List.length_cons]; omega
theorem pwrite_len {p : Par} (h : pright p = true) : (pwrite p).length ≤ 500 := by
  obtain ⟨h1, h2, h3, h4, h5, h6, h7, h8⟩ := pright_of h
  have a0 := vgive_len p.goal
  have a1 := vgive_len (vbytes p.idle)
  have a2 := vgive_len (vbytes p.data)
  have a3 := vgive_len p.own
  have a4 := vgive_len p.retry
  have a5 := vgive_len (vbl p.chosen.toNat 4 ++ (p.vers.map fun v => vbl v.toNat 4).flatten)
  have b0 := vbytes_len 0
  have b1 := vbytes_len 1
  have b2 := vbytes_len 4
  have b3 := vbytes_len 15
  have b4 := vbytes_len 16
  have b5 := vbytes_len 17
  have c1 := vbytes_len p.idle
  have c2 := vbytes_len p.data
  rw [List.length_append, vbl_len, verL_len] at a5
  unfold pwrite
  simp only [List.length_append]
  (repeat' split) <;> simp only [List.length_append, List.length_nil] <;> omega
theorem pwrite_ne (p : Par) : pwrite p ≠ [] := by
  unfold pwrite
  obtain ⟨c, r, e⟩ := vbytes_cons (n := 1) (by decide)
  rw [e]
  simp
theorem runF_fields {p : Par} (h : pright p = true) : runF par0 (fieldsP p) = some p := by
  obtain ⟨h1, h2, h3, h4, h5, h6, h7, h8⟩ := pright_of h
  obtain ⟨n1, n2, n3⟩ := pright_named h
  have hi := isNumber_vbytes h3
  have hd := isNumber_vbytes h4
  have hc := version_of h1
  have hn := nums_vbl (p.chosen :: p.vers) (fun v hv => by
    rcases List.mem_cons.1 hv with rfl | hv
    · omega
    · have := version_of (h2 v hv); omega)
  rw [List.map_cons, List.flatten_cons, List.length_cons] at hn
  generalize hx : vbl p.chosen.toNat 4 ++ (p.vers.map fun v => vbl v.toNat 4).flatten = x at hn
  have hl : 4 ≤ x.length ∧ x.length % 4 = 0 := by omega
  obtain ⟨idle, data, hg, ho, hr, goal, own, retry, chosen, vers⟩ := p
  simp only at hi hd hn hx n1 n2 n3
  have m1 := named_of n1
  have m2 := named_of n2
  have m3 := named_of n3
  unfold fieldsP
  simp only [hx]
  cases hg <;> cases ho <;> cases hr <;> simp [runF, setf, hi, hd, hn, par0] at m1 m2 m3 ⊢ <;> simp_all
theorem back_law {p : Par} (h : pright p = true) : pread (pwrite p) = (p, 0) := by
  obtain ⟨h1, h2, h3, h4, h5, h6, h7, h8⟩ := pright_of h
  have hlen := pwrite_len h
  unfold pread
  rw [if_neg (by omega)]
  unfold preadR
  have hk : (fieldsP p).length ≤ (pwrite p).length := by
    rw [pwrite_enc]
    have : ∀ fs : List (Int × List UInt8), (∀ f, f ∈ fs → vsize f.1 ≠ 0) → fs.length ≤ (encF fs).length := by
      intro fs
      induction fs with
      | nil => simp
      | cons f r ih =>
        intro hf
        have := ih fun g hg => hf g (List.mem_cons_of_mem _ hg)
        obtain ⟨c, t, hc⟩ := vbytes_cons (hf f (List.mem_cons_self ..))
        have e : encF (f :: r) = vbytes f.1 ++ vgive f.2 ++ encF r := by simp [encF]
        rw [e, hc]
        simp
        omega
    exact this _ fun f hf => by
      unfold fieldsP at hf
      simp only [List.mem_append] at hf
      rcases hf with (((hf | hf) | hf) | hf) | hf
      · split at hf <;> simp at hf; subst hf; simp [vsize]
      · simp at hf; rcases hf with rfl | rfl <;> simp [vsize]
      · split at hf <;> simp at hf; subst hf; simp [vsize]
      · split at hf <;> simp at hf; subst hf; simp [vsize]
      · simp at hf; subst hf; simp [vsize]
  have hx := preadL_enc (fieldsP p) (pwrite p).length par0 (-1) [] hk (fun f hf => by
      have v1 := vbytes_len p.idle
      have v2 := vbytes_len p.data
      have v3 := verL_len p.vers
      have v4 := vbl_len p.chosen.toNat 4
      unfold fieldsP at hf
      simp only [List.mem_append] at hf
      rcases hf with (((hf | hf) | hf) | hf) | hf
      · split at hf <;> simp at hf; subst hf; exact ⟨by simp [vsize], by simp only; omega⟩
      · simp at hf
        rcases hf with rfl | rfl
        · exact ⟨by simp [vsize], by simp only; omega⟩
        · exact ⟨by simp [vsize], by simp only; omega⟩
      · split at hf <;> simp at hf; subst hf; exact ⟨by simp [vsize], by simp only; omega⟩
      · split at hf <;> simp at hf; subst hf; exact ⟨by simp [vsize], by simp only; omega⟩
      · simp at hf; subst hf; exact ⟨by simp [vsize], by simp only [List.length_append]; omega⟩) (by
      unfold fieldsP
      cases p.hg <;> cases p.ho <;> cases p.hr <;> simp)
  rw [runF_fields h, ← pwrite_enc, Option.map_some, List.nil_append] at hx
  rw [hx]
  simp only
  have hall : pall (p, (fieldsP p).map (·.1)) = true := by
    unfold pall
    rw [h]
    unfold fieldsP
    simp
  rw [if_pos hall]
end Ab
