/- From a contract to a row: what is read of the arguments when the call begins, and what is asked behind it. It asks nothing. -/
import Derived.Test.YtipdohldogbmnaaDoorAb26
import Derived.ProofKit
import Derived.LaidMore
import Derived.OpenShut
set_option autoImplicit false
set_option linter.unusedVariables false
set_option linter.unusedSimpArgs false
namespace Ab
open Go Go.RowKit Go.ChangeShapes Go.WideShapes
/-- All that is there when the call begins stays as it is. -/
def allI (W : World) : IMap := fun n => W.heap[n]?
theorem inv_start (W : World) : Inv W W (allI W) [] := ⟨Below.refl _ _, fun n hn => rfl, fun n o h => h, fun p hp => by simp at hp, by simp⟩
theorem cellI_start {W : World} {b o : Nat} {x : Value} (h : W.cell? ⟨b, o, none⟩ = some x) : cellI (allI W) b o x := by
  unfold World.cell? at h
  cases hb : W.heap[b]? with
  | none => rw [hb] at h; cases h
  | some ob =>
    rw [hb] at h
    cases ob <;> first | (cases h; done) | skip
    rename_i c e fr
    exact ⟨c, e, fr, hb, by simpa using h⟩
section
variable {H : Type} {enc : TypeId × Value → H} {P : Program} {W : World} {sp : Nat → Bool} {held : Bool} {fuel base : Nat}
/-- A slice of whole numbers that came in. -/
theorem rel_ints {t e : TypeId} {k : IntKind} {cs : List Value} {x : DataW H × List MemPlace} (ht : P.underlying t = some (.slice e)) (he : P.underlying e = some (.int k)) (hc : P.cellsOf e = 1)
    (h : DataW.trod enc P W base sp held fuel t cs = some x) : ∃ (zs : List Int) (v : Value), cs = [v] ∧ (∀ z, z ∈ zs → (Lit.int k z).wf = true) ∧ Rel (allI W) (.sl 1 zs.length (zs.map fun z => [.v (.int k z)])) v := by
  rcases Go.ChangeShapes.open_ints ht he hc h with ⟨rfl, _⟩ | ⟨a, len, cap, zs, rfl, _, hl, hm, hz, _, hcell, hwf⟩
  · exact ⟨[], _, rfl, fun z hz => by simp at hz, .sl0 _ _ _⟩
  · refine ⟨zs.take len, _, rfl, fun z hz => hwf z (List.mem_of_mem_take hz), ?_⟩
    have hzl : len ≤ zs.length := by
      rw [hz]; split <;> omega
    have hlen : (zs.take len).length = len := by simp; omega
    by_cases h0 : len = 0
    · subst h0
      simp only [List.take_zero, List.length_nil, List.map_nil]
      exact .sl0 _ _ _
    · have hsp : a.spot = none := by
        have := hcell 0 (by omega)
        unfold World.cell? at this
        simp only [Addr.add, if_true] at this
        split at this
        · cases hs : a.spot with
          | none => rfl
          | some s => rw [hs] at this; simp at this
        · cases this
      obtain ⟨b, o, spot⟩ := a
      simp only at hsp
      subst hsp
      rw [hlen]
      refine .sl 1 len _ b o cap (fun i _ => .int k (zs.getD i 0)) (by simp; omega) (fun i hi => ?_) (fun i j hi hj => ?_) (fun i j hi hj => ?_) (fun i j hi hj => rfl) hl
      · rw [List.getD_eq_getElem?_getD, List.getElem?_map, List.getElem?_take, if_pos hi, List.getElem?_eq_getElem (by omega)]; rfl
      · have hj0 : j = 0 := by omega
        subst hj0
        have := hcell i (by omega)
        rw [add_at] at this
        rw [show o + i * 1 + 0 = o + i by omega]
        exact cellI_start this
      · have hj0 : j = 0 := by omega
        subst hj0
        have e0 : ((zs.take len).map fun z => [AV.v (.int k z)]).getD i [] = [AV.v (.int k zs[i])] := by
          rw [List.getD_eq_getElem?_getD, List.getElem?_map, List.getElem?_take, if_pos hi, List.getElem?_eq_getElem (by omega)]; rfl
        rw [e0]
        simp only [List.getD_cons_zero]
        have e : zs.getD i 0 = zs[i] := by rw [List.getD_eq_getElem?_getD, List.getElem?_eq_getElem (by omega)]; rfl
        rw [e]; exact .v _
theorem rel_bytes {t e : TypeId} {cs : List Value} {x : DataW H × List MemPlace} (ht : P.underlying t = some (.slice e)) (he : P.underlying e = some (.int .u8)) (hc : P.cellsOf e = 1)
    (h : DataW.trod enc P W base sp held fuel t cs = some x) : ∃ (bs : List UInt8) (v : Value), cs = [v] ∧ Rel (allI W) (aB bs) v := by
  obtain ⟨zs, v, h1, h2, h3⟩ := rel_ints ht he hc h
  refine ⟨zs.map fun z => UInt8.ofNat z.toNat, v, h1, ?_⟩
  have e : (zs.map fun z => UInt8.ofNat z.toNat).map bA = zs.map fun z => [AV.v (.int .u8 z)] := by
    rw [List.map_map]
    refine List.map_congr_left fun z hz => ?_
    have hw := h2 z hz
    have h01 : 0 ≤ z ∧ z < 256 := by
      simp [Lit.wf, IntKind.min, IntKind.max, IntKind.signed, IntKind.bits] at hw
      omega
    simp only [Function.comp, bA]
    congr 3
    simp
    omega
  unfold aB
  rw [e, List.length_map]
  exact h3
/-- Arguments read behind the call as they read ahead of it. -/
theorem stays_all (hl : laidOutB P = true) {W' : World} (hb : Below W.heap.size W W') {sp : Nat → Bool} : ∀ (ts : List TypeId) (vs : List Value) (ds : List (DataW H)) (ps : List MemPlace), ts.all (fun t => P.readableRec t && decide (t < P.types.size)) = true →
    DataW.TrodAll enc P W 0 (fun _ => true) true ts vs ds ps → (∀ x, x ∈ ps → x.block < W.heap.size) → (∀ x, x ∈ ps → sp x.block = true) → DataW.TrodAll enc P W' 0 sp true ts vs ds ps := by
  intro ts
  induction ts with
  | nil => intro vs ds ps _ h _ _; cases vs <;> cases ds <;> first | exact h | exact h.elim
  | cons t ts ih =>
    intro vs ds ps hr h hlt hsp
    cases vs with
    | nil => cases ds <;> exact h.elim
    | cons v vs =>
      cases ds with
      | nil => exact h.elim
      | cons d ds =>
        obtain ⟨p, q, h1, h2, rfl⟩ := h
        rw [List.all_cons, Bool.and_eq_true, Bool.and_eq_true, decide_eq_true_eq] at hr
        refine ⟨p, q, WideElems.Trod_stays hl hr.1.1 hr.1.2 h1 (fun x hx => hb.same (hlt x (List.mem_append_left _ hx))) (fun x hx => hsp x (List.mem_append_left _ hx)), ?_, rfl⟩
        exact ih vs ds q hr.2 h2 (fun x hx => hlt x (List.mem_append_right _ hx)) (fun x hx => hsp x (List.mem_append_right _ hx))
/-- What is asked behind the call of a law that has returned true, and has made memory of its own alone. -/
theorem law_close {f : Func} {s : ChangeSpec} {apart fresh handsOn again : Bool} {W' : World} {args : Array Value} {ds : List (DataW H)} {before : List MemPlace} {tb : TypeId} (hl : laidOutB P = true)
    (hW : DataW.Whole enc P f.params.toList s.vars apart W args.toList ds [] before) (hvs : s.vars = []) (hr : f.resultTypes = #[tb]) (hu : P.underlying tb = some .bool) (hs : s.fn H ds = { results := [.lit (.bool true)], args := ds })
    (hp : f.params.toList.all (fun t => P.readableRec t && decide (t < P.types.size)) = true) (hb : Below W.heap.size W W') : s.post enc P f apart fresh handsOn again W args (.bool true) W' := by
  have hlt : ∀ p, p ∈ before → p.block < W.heap.size := fun p hp => hW.lt p hp
  have hW' := hW
  obtain ⟨p, q, hA, hV, hpq, hz, hn⟩ := hW'
  rw [hvs] at hV
  have hq : q = [] := hV
  subst hq
  rw [List.append_nil] at hpq
  subst hpq
  have hds : ds ++ ([] : List (DataW H)) = ds := List.append_nil _
  have hargs : ∀ sp : Nat → Bool, (∀ x, x ∈ before → sp x.block = true) → DataW.TrodAll enc P W' 0 sp true f.params.toList args.toList ds before := fun sp hsp => stays_all hl hb _ _ _ _ hp hA hlt hsp
  have hres : ∀ (b : Nat) (sp : Nat → Bool) (hd : Bool), DataW.TrodAll enc P W' b sp hd f.resultTypes.toList ((Value.bool true).resultList f.resultTypes.size) [.lit (.bool true)] [] := fun b sp hd => by
    rw [hr]; exact trodAll_mk1 (shut_bool hu true)
  have hok := ok_one (P := P) (W' := W') hr rfl (okWide_bool_mk hu true)
  refine ⟨ds, [], before, [], before, [], hW, by rw [hds, hs]; exact hres _ _ _, by rw [hds, hs]; exact hargs _ (fun x hx => by simpa using hlt x hx), by rw [hds, hs, hvs]; rfl, World.keptBut_mono (fun x hx => ⟨hx, .inr (.inl hx)⟩) (hb.frame (· ∈ before)), fun _ => ?_⟩
  refine ⟨hok, _, [], ([] ++ before) ++ [], ⟨[] ++ before, [], trodAll_append (hargs _ (fun _ _ => rfl)) (hres 0 _ true), by rw [hvs]; rfl, rfl, ?_, ?_⟩, fun x hx _ => by simpa using hx⟩
  · intro b off hx
    have hin : MemPlace.cell b off ∈ before := by simpa using hx
    rw [hb.frozen (hlt _ hin)]
    exact hz b off hin
  · intro ha
    simpa using hn ha
/-- What a contract gives for a call. -/
theorem law_run {f : FuncId} {args : List AV} {vals : Array Value} (h : Ab.Fn P W f args [] (fun r L' => r = .v (.bool true) ∧ L' = [])) (hv : RelL (allI W) args vals) : Calls P f vals W fun e W' => e = .returned (.bool true) ∧ Below W.heap.size W W' := by
  refine (h.out W (allI W) [] vals (by simpa using inv_start W) hv).mono fun e w' ⟨J, L', h1, h2, h3⟩ => ?_
  rcases h3 with ⟨v, r, h4, h5, h6, _⟩ | ⟨_, _, h4⟩
  · subst h6; cases h5
    exact ⟨h4, h2.below⟩
  · exact h4.elim
/-- The table of math/bits, as it is laid. -/
theorem tz_of_laid {n : String} {g : Nat} {t e : TypeId} {x1 : String × DataW Unit} {xs0 : List (DataW Unit)} {ps : List MemPlace} (hg : P.globalNamed n = some g) (ht : (P.globals[g]?).map (·.type) = some t) (hu : P.underlying t = some (.array 64 e)) (he : P.underlying e = some (.int .u8))
    (hc : P.cellsOf e = 1) (h0 : xs0[0]? = some (.lit (.int .u8 0))) (h1 : xs0[1]? = some (.lit (.int .u8 1))) (h3 : xs0[3]? = some (.lit (.int .u8 2))) (h7 : xs0[7]? = some (.lit (.int .u8 3)))
    (hL : DataW.LaidVars P W [x1, (n, .agg xs0)] ps) : Tz W g := by
  obtain ⟨_, _, _, _, _, _, _, _, _, _, ⟨g1, t1, cs, f1, p1, q1, hg1, ht1, hv1, hd1, _, _⟩, _⟩ := hL
  obtain rfl := Option.some.inj (hg.symm.trans hg1)
  obtain rfl := Option.some.inj (ht.symm.trans ht1)
  obtain ⟨xs, m, rfl, hx, hlen, hn, hel⟩ := DataW.trod_array hu hd1
  simp only [Prod.mk.injEq, DataW.agg.injEq] at hx
  have key : ∀ (i : Nat) (v : Int), i < 64 → xs0[i]? = some (.lit (.int .u8 v)) → W.cell? ⟨g, i, none⟩ = some (.int .u8 v) := by
    intro i v hi hv
    have h2 := hel i hi
    rw [hc, Nat.mul_one] at h2
    obtain ⟨y, hy⟩ : ∃ y, xs[i]? = some y := ⟨xs[i], List.getElem?_eq_getElem (by omega)⟩
    rw [hy] at h2
    obtain ⟨k, e1, e2, _⟩ := DataW.trod_int he h2
    rw [hx.1, List.getElem?_map, hy, e2] at hv
    simp only [Option.map_some, Option.some.injEq, DataW.lit.injEq, Lit.int.injEq, true_and] at hv
    subst hv
    rw [World.var?_cell hg hv1 i]
    have h4 : (cs.toList.drop i)[0]? = some (.int .u8 k) := by
      have : ((cs.toList.drop i).take 1)[0]? = some (.int .u8 k) := by rw [e1]; rfl
      rwa [List.getElem?_take, if_pos (by omega)] at this
    rw [List.getElem?_drop, Nat.add_zero] at h4
    rw [← Array.getElem?_toList]; exact h4
  have c0 := key 0 0 (by omega) h0
  refine ⟨?_, c0, key 1 1 (by omega) h1, key 3 2 (by omega) h3, key 7 3 (by omega) h7⟩
  unfold World.cell? at c0
  cases hb : W.heap[g]? with
  | none => rw [hb] at c0; cases c0
  | some o => exact (Array.getElem?_eq_some_iff.1 hb).1
end
end Ab
