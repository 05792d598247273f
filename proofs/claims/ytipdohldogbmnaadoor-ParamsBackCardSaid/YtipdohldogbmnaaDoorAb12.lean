/- Regions that draw their order: plain operations and reads may be taken at once, as soon as they can be. It asks that the program ranges over all orders. -/
import Derived.Test.YtipdohldogbmnaaDoorAb11
import Derived.Orders
set_option autoImplicit false
set_option linter.unusedVariables false
set_option linter.unusedSimpArgs false
namespace Ab
open Go Go.RowKit

structure DOp where
  g : GOp
  after : List Nat
def bindA (e : Edge) : Bool := match e.ground with | .textOnly _ => false | .gcOnly _ => false | _ => true
theorem bindA_eq (e : Edge) : Region.binds .any e = bindA e := by unfold Region.binds bindA; cases e.ground <;> rfl
def afterL : List Edge → List Nat
  | [] => []
  | ⟨on, gr⟩ :: r => match gr with | .textOnly _ => afterL r | .gcOnly _ => afterL r | _ => on :: afterL r
theorem afterL_eq (l : List Edge) (p : Nat → Bool) : (afterL l).all p = l.all (fun e => !Region.binds .any e || p e.on) := by
  induction l with
  | nil => rfl
  | cons e r ih =>
    obtain ⟨on, gr⟩ := e
    cases gr <;> simp [afterL, Region.binds, ih]
/-- A list, worked out to its end. -/
def seqL {β : Type} : List Nat → (List Nat → β) → β
  | [], k => k []
  | x :: r, k => seqL r fun r' => k (x :: r')
theorem seqL_eq {β : Type} : ∀ (l : List Nat) (k : List Nat → β), seqL l k = k l
  | [], k => rfl
  | x :: r, k => seqL_eq r _
def dopsL (ops : Array Oper) : List Oper → Option (List DOp)
  | [] => some []
  | ⟨dst, op, type, _, after, guard⟩ :: r =>
    match dopsL ops r with
    | none => none
    | some gs =>
      match guard with
      | none => seqL (afterL after.toList) fun af => some (⟨⟨dst, op, type, none⟩, af⟩ :: gs)
      | some (j, b) =>
        match ops[j]? with
        | none => none
        | some ⟨d, _, _, _, _, _⟩ =>
          match d with
          | none => none
          | some d => seqL (afterL after.toList) fun af => some (⟨⟨dst, op, type, some (some d, b)⟩, af⟩ :: gs)
theorem dopsL_eq (ops : Array Oper) (os : List Oper) (ds : List DOp) (h : dopsL ops os = some ds) : os.map (fun o => (⟨mkG ops o, afterL o.after.toList⟩ : DOp)) = ds := by
  induction os generalizing ds with
  | nil => cases h; rfl
  | cons o r ih =>
    obtain ⟨dst, op, type, pos, after, guard⟩ := o
    simp only [dopsL] at h
    split at h
    · cases h
    · rename_i gs' hg
      have hr := ih _ hg
      split at h
      · rw [seqL_eq] at h; cases h; rw [List.map_cons, hr]; rfl
      · rename_i j b
        split at h
        · cases h
        · rename_i d _ _ _ _ _ hj
          split at h
          · cases h
          · rw [seqL_eq] at h; cases h
            rw [List.map_cons, hr]; simp [mkG, hj]

/-- The slots that an operation looks at. -/
def tmpsOf : List Operand → List Nat
  | [] => []
  | .tmp t :: r => t :: tmpsOf r
  | _ :: r => tmpsOf r
theorem mem_tmpsOf {l : List Operand} {t : Nat} (h : Operand.tmp t ∈ l) : t ∈ tmpsOf l := by
  induction l with
  | nil => simp at h
  | cons x r ih =>
    rcases List.mem_cons.1 h with rfl | h'
    · simp [tmpsOf]
    · cases x <;> simp [tmpsOf, ih h']
def looks (g : GOp) : List Nat := tmpsOf g.op.operands.toList ++ (match g.g with | some (some d, _) => [d] | _ => [])
def noSel (o : Op) : Bool := match o with | .select _ _ => false | .defer _ => false | _ => true
/-- Do two operations have nothing to do with each other's slots? -/
def apartG (x y : GOp) : Bool :=
  (match x.dst with | some d => !(looks y).contains d && (match y.dst with | some e => !Nat.beq d e | none => true) | none => true) &&
  (match y.dst with | some d => !(looks x).contains d | none => true)
/-- Whatever has to do with each other is in order. -/
def ordOk (D : List DOp) : Bool :=
  (List.range D.length).all fun j => (match D[j]? with
    | some y => noSel y.g.op && y.after.all (fun i => Nat.blt i j) && (List.range j).all fun i => (match D[i]? with | some x => y.after.contains i || apartG x.g y.g | none => true)
    | none => true)

def readyD (D : List DOp) (rem : List Nat) (i : Nat) : Bool := match D[i]? with | some o => o.after.all (fun j => !rem.contains j) | none => false

theorem ordOk_lt {D : List DOp} (h : ordOk D = true) {j : Nat} {y : DOp} (hj : D[j]? = some y) : ∀ i, i ∈ y.after → i < j := by
  have hlt : j < D.length := (List.getElem?_eq_some_iff.1 hj).1
  have := List.all_eq_true.1 h j (List.mem_range.2 hlt)
  simp only [hj, Bool.and_eq_true] at this
  intro i hi
  have := List.all_eq_true.1 this.1.2 i hi
  simpa using this
theorem ordOk_sel {D : List DOp} (h : ordOk D = true) {j : Nat} {y : DOp} (hj : D[j]? = some y) : noSel y.g.op = true := by
  have hlt : j < D.length := (List.getElem?_eq_some_iff.1 hj).1
  have := List.all_eq_true.1 h j (List.mem_range.2 hlt)
  simp only [hj, Bool.and_eq_true] at this
  exact this.1.1
theorem ordOk_apart {D : List DOp} (h : ordOk D = true) {i j : Nat} {x y : DOp} (hi : D[i]? = some x) (hj : D[j]? = some y) (hlt : i < j) : i ∈ y.after ∨ apartG x.g y.g = true := by
  have hl : j < D.length := (List.getElem?_eq_some_iff.1 hj).1
  have := List.all_eq_true.1 h j (List.mem_range.2 hl)
  simp only [hj, Bool.and_eq_true] at this
  have := List.all_eq_true.1 this.2 i (List.mem_range.2 hlt)
  simp only [hi, Bool.or_eq_true] at this
  exact this.imp (fun h => by simpa using h) id
theorem apartG_symm {x y : GOp} (h : apartG x y = true) : apartG y x = true := by
  unfold apartG at *
  simp only [Bool.and_eq_true] at h ⊢
  obtain ⟨h1, h2⟩ := h
  refine ⟨?_, ?_⟩
  · cases hy : y.dst with
    | none => rfl
    | some e =>
      rw [hy] at h2
      simp only [Bool.and_eq_true]
      refine ⟨h2, ?_⟩
      cases hx : x.dst with
      | none => rfl
      | some d =>
        rw [hx, hy] at h1
        simp only [Bool.and_eq_true] at h1
        cases hb : Nat.beq e d with
        | false => simp only [hb]; rfl
        | true =>
          have := Nat.eq_of_beq_eq_true hb
          subst this
          have h3 := h1.2
          simp at h3
  · cases hx : x.dst with
    | none => rfl
    | some d =>
      rw [hx] at h1
      simp only [Bool.and_eq_true] at h1
      exact h1.1
/-- Two that are ready have nothing to do with each other. -/
theorem ready_apart {D : List DOp} (h : ordOk D = true) {rem : List Nat} {i j : Nat} {x y : DOp} (hi : D[i]? = some x) (hj : D[j]? = some y) (mi : i ∈ rem) (mj : j ∈ rem) (ri : readyD D rem i = true) (rj : readyD D rem j = true) (hne : i ≠ j) :
    apartG x.g y.g = true := by
  rcases Nat.lt_or_ge i j with hlt | hge
  · rcases ordOk_apart h hi hj hlt with h1 | h1
    · unfold readyD at rj
      rw [hj] at rj
      have := List.all_eq_true.1 rj i h1
      simp [mi] at this
    · exact h1
  · rcases ordOk_apart h hj hi (by omega) with h1 | h1
    · unfold readyD at ri
      rw [hi] at ri
      have := List.all_eq_true.1 ri j h1
      simp [mj] at this
    · exact apartG_symm h1

/-! ### Orders -/
inductive SchedOk (D : List DOp) : List Nat → List Nat → Prop
  | nil : SchedOk D [] []
  | cons {rem σ : List Nat} {i : Nat} (hi : i ∈ rem) (hr : readyD D rem i = true) (h : SchedOk D (rem.erase i) σ) : SchedOk D rem (i :: σ)

theorem ready_least {D : List DOp} (h : ordOk D = true) {rem : List Nat} (hs : ∀ i, i ∈ rem → i < D.length) (hne : rem ≠ []) : ∃ i, i ∈ rem ∧ readyD D rem i = true := by
  have : ∃ i, i ∈ rem ∧ ∀ j, j ∈ rem → i ≤ j := by
    clear hs h
    induction rem with
    | nil => exact absurd rfl hne
    | cons a r ih =>
      by_cases hr : r = []
      · subst hr; exact ⟨a, by simp, by simp⟩
      · obtain ⟨i, h1, h2⟩ := ih hr
        by_cases hai : a ≤ i
        · exact ⟨a, by simp, fun j hj => by rcases List.mem_cons.1 hj with rfl | hj; exact Nat.le_refl _; exact Nat.le_trans hai (h2 j hj)⟩
        · exact ⟨i, by simp [h1], fun j hj => by rcases List.mem_cons.1 hj with rfl | hj; omega; exact h2 j hj⟩
  obtain ⟨i, h1, h2⟩ := this
  refine ⟨i, h1, ?_⟩
  have hl := hs i h1
  unfold readyD
  rw [List.getElem?_eq_getElem hl]
  refine List.all_eq_true.2 fun j hj => ?_
  have := ordOk_lt h (List.getElem?_eq_getElem hl) j hj
  simp
  intro hm
  have := h2 j hm
  omega

theorem all_congr' {α : Type} {l : List α} {p q : α → Bool} (h : ∀ a, a ∈ l → p a = q a) : l.all p = l.all q := by
  induction l with
  | nil => rfl
  | cons a r ih => simp only [List.all_cons]; rw [h a (by simp), ih (fun b hb => h b (List.mem_cons_of_mem _ hb))]
theorem sched_ok {ops : Array Oper} {D : List DOp} (hD : ops.toList.map (fun o => (⟨mkG ops o, afterL o.after.toList⟩ : DOp)) = D) (h : ordOk D = true) : ∀ (fuel t : Nat) (listed : Array Bool), listed.size = ops.size →
    ((List.range ops.size).filter fun i => !listed.getD i true).length ≤ fuel → SchedOk D ((List.range ops.size).filter fun i => !listed.getD i true) (Region.linearise.go .any ops fuel t listed []) := by
  have hlen : D.length = ops.size := by rw [← hD]; simp
  have hget : ∀ i : Nat, D[i]? = (ops[i]?).map (fun o => (⟨mkG ops o, afterL o.after.toList⟩ : DOp)) := by intro i; rw [← hD]; simp
  have hready : ∀ listed : Array Bool, listed.size = ops.size → Region.ready .any ops listed = ((List.range ops.size).filter fun i => !listed.getD i true).filter (readyD D ((List.range ops.size).filter fun i => !listed.getD i true)) := by
    intro listed hsz
    unfold Region.ready
    rw [List.filter_filter]
    refine List.filter_congr fun i hi => ?_
    have hi' : i < ops.size := List.mem_range.1 hi
    have e : ((ops[i]?).map (·.after.all fun e => !Region.binds .any e || listed.getD e.on false)).getD false = readyD D ((List.range ops.size).filter fun i => !listed.getD i true) i := by
      unfold readyD
      rw [hget i, Array.getElem?_eq_getElem hi']
      simp only [Option.map_some, Option.getD_some]
      rw [afterL_eq, ← Array.all_toList]
      have hedge := ordOk_lt (D := D) h (j := i) (y := (⟨mkG ops ops[i], afterL (ops[i]'hi').after.toList⟩ : DOp)) (by rw [hget i, Array.getElem?_eq_getElem hi']; rfl)
      refine all_congr' fun e he => ?_
      cases hb : Region.binds .any e with
      | false => simp
      | true =>
        have hm : e.on ∈ afterL (ops[i]'hi').after.toList := by
          have : ∀ l : List Edge, e ∈ l → Region.binds .any e = true → e.on ∈ afterL l := by
            intro l
            induction l with
            | nil => intro h; simp at h
            | cons x r ih =>
              intro hm hb
              rcases List.mem_cons.1 hm with rfl | hm
              · obtain ⟨on, gr⟩ := e
                cases gr <;> simp_all [afterL, Region.binds]
              · have := ih hm hb
                obtain ⟨on, gr⟩ := x
                cases gr <;> simp [afterL, this]
          exact this _ he hb
        have hon : e.on < ops.size := by have := hedge e.on hm; omega
        simp [hon, Array.getD_eq_getD_getElem?, hsz]
    rw [e, Bool.and_comm]
  intro fuel
  induction fuel with
  | zero =>
    intro t listed hsz hle
    have : ((List.range ops.size).filter fun i => !listed.getD i true) = [] := List.length_eq_zero_iff.1 (by omega)
    rw [this]
    exact .nil
  | succ fuel ih =>
    intro t listed hsz hle
    simp only [Region.linearise.go]
    change SchedOk D _ (match (Region.ready .any ops listed)[t % (Region.ready .any ops listed).length]? with
      | some i => Region.linearise.go .any ops fuel (t / (Region.ready .any ops listed).length) (listed.setIfInBounds i true) [i]
      | none => [].reverse)
    by_cases hne : ((List.range ops.size).filter fun i => !listed.getD i true) = []
    · have hr : Region.ready .any ops listed = [] := by rw [hready listed hsz, hne]; rfl
      rw [hr, hne]; exact .nil
    · obtain ⟨i0, h1, h2⟩ := ready_least h (rem := (List.range ops.size).filter fun i => !listed.getD i true) (fun i hi => by rw [hlen]; exact List.mem_range.1 (List.mem_filter.1 hi).1) hne
      have hr : Region.ready .any ops listed ≠ [] := by
        rw [hready listed hsz]
        exact List.ne_nil_of_mem (List.mem_filter.2 ⟨h1, h2⟩)
      have hlt : t % (Region.ready .any ops listed).length < (Region.ready .any ops listed).length := Nat.mod_lt _ (List.length_pos_iff.2 hr)
      rw [List.getElem?_eq_getElem hlt]
      simp only
      generalize hi : (Region.ready .any ops listed)[t % (Region.ready .any ops listed).length] = i
      have hmem : i ∈ Region.ready .any ops listed := hi ▸ List.getElem_mem hlt
      rw [hready listed hsz] at hmem
      obtain ⟨hm1, hm2⟩ := List.mem_filter.1 hmem
      rw [linearise_go_acc, List.reverse_singleton, List.singleton_append]
      have hil : i < ops.size := List.mem_range.1 (List.mem_filter.1 hm1).1
      have herase : ((List.range ops.size).filter fun k => !listed.getD k true).erase i = (List.range ops.size).filter fun k => !(listed.setIfInBounds i true).getD k true := by
        rw [List.Nodup.erase_eq_filter (List.Pairwise.filter _ List.nodup_range), List.filter_filter]
        refine List.filter_congr fun k hk => ?_
        have hkl : k < ops.size := List.mem_range.1 hk
        simp only [Array.getD_eq_getD_getElem?, Array.getElem?_setIfInBounds, hsz]
        by_cases hki : i = k
        · subst hki; simp [hil]
        · have : (k != i) = true := by simp; exact fun e => hki e.symm
          simp [hki, this]
      refine .cons hm1 hm2 ?_
      rw [herase]
      refine ih _ _ (by simp [hsz]) ?_
      rw [← herase, List.length_erase_of_mem hm1]
      omega
end Ab
