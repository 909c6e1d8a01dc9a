import Derived.Test.YtodgdijafcenbaaAE21
namespace Go.AE
section
variable {P : Program} {E : Env} {call : CallF} {ops : Array Oper} {plan : List PI} {n0 N sz : Nat} {df : List Deferred} {R0 R : RM} {h0 h : AH} {W0 W : World} {s : Nat → Bool} {D ρ : List PI} {T : PT AV} {a : Act}

/-- is a slot one that a pending operation will write? -/
def pendDst (s : Nat → Bool) (D : List PI) (t : Nat) : Bool := D.any fun p => !s p.i && p.o.dst == some t

theorem pendDst_iff {t : Nat} : pendDst s D t = true ↔ ∃ p ∈ D, s p.i = false ∧ p.o.dst = some t := by
  unfold pendDst
  rw [List.any_eq_true]
  constructor
  · rintro ⟨p, hp, h⟩
    simp only [Bool.and_eq_true, Bool.not_eq_true', beq_iff_eq] at h
    exact ⟨p, hp, h⟩
  · rintro ⟨p, hp, h1, h2⟩
    exact ⟨p, hp, by simp [h1, h2]⟩

/-- the slots that nobody pends for -/
theorem tr_filter (I : DInv P E ops plan n0 N sz df R0 h0 W0 s D ρ T h R W a) : TR R (PT.filter (fun t => !pendDst s D t) T) a.tmps := by
  intro t v ht
  rw [PT.get_filter] at ht
  split at ht
  · rename_i hn
    rcases I.slots t v ht with hp | hv
    · rw [pendDst_iff.2 hp] at hn; cases hn
    · exact hv
  · cases ht

/-- one that may be carried out reads no slot that is pending -/
theorem reads_free (hp : PlanOk E ops.toList plan) (I : DInv P E ops plan n0 N sz df R0 h0 W0 s D ρ T h R W a) {y : PI} (hy : y ∈ plan) (hsy : s y.i = false) (hm : ∀ x, bitOf y.m x = true → s x = true)
    {t : Nat} (ht : memN t (readsOf ops.toList y.o) = true) : pendDst s D t = false := by
  cases hpd : pendDst s D t with
  | false => rfl
  | true =>
    exfalso
    obtain ⟨p, hpD, hsp, hdp⟩ := pendDst_iff.1 hpd
    have hpc := pend_not_act I hpD hsp
    by_cases he : p.i = y.i
    · have := idx_inj hp (mem_plan_D I.split hpD) hy he
      subst this
      obtain ⟨d, hd, hself⟩ := guardOk_non (hp.guard p hy) hpc
      rw [hdp] at hd; simp only [Option.some.injEq] at hd; subst hd
      rw [hself] at ht; cases ht
    · have hahead : pairOk ops.toList p y = true → False := by
        intro hpr
        obtain ⟨d, hd, _, h2, _⟩ := pairOk_non hpr hpc
        rw [hdp] at hd; simp only [Option.some.injEq] at hd; subst hd
        have := hm _ (h2 ht)
        rw [hsp] at this; cases this
      rw [← I.split] at hy
      rcases List.mem_append.1 hy with hyD | hyr
      · have hyD' : y ∈ D := by simpa using hyD
        rcases pair_or hp I.split hpD hyD' he with h1 | h1
        · exact hahead h1
        · by_cases hya : y.c = .act
          · have := I.acts y hyD' hya
            rw [hsy] at this; cases this
          · obtain ⟨d, hd, _, _, h3⟩ := pairOk_non h1 hya
            exact hpc (h3 t hdp ht).1
      · exact hahead (pair_of hp I.split hpD hyr)

theorem filter_same (hp : PlanOk E ops.toList plan) (I : DInv P E ops plan n0 N sz df R0 h0 W0 s D ρ T h R W a) {y : PI} (hy : y ∈ plan) (hsy : s y.i = false) (hm : ∀ x, bitOf y.m x = true → s x = true) :
    ∀ t, memN t (readsOf ops.toList y.o) = true → T.get t = (PT.filter (fun t => !pendDst s D t) T).get t := by
  intro t ht
  rw [PT.get_filter, reads_free hp I hy hsy hm ht]; rfl

/-- the guard's answer there -/
theorem wanted_there (hp : PlanOk E ops.toList plan) (I : DInv P E ops plan n0 N sz df R0 h0 W0 s D ρ T h R W a) {y : PI} (hy : y ∈ plan) (hsy : s y.i = false) (hm : ∀ x, bitOf y.m x = true → s x = true)
    {b : Bool} (hb : aWanted ops.toList T y.o = some b) : Region.wanted y.o (yielded ops a.tmps) = b := by
  rw [wanted_congr (filter_same hp I hy hsy hm)] at hb
  exact wanted_ok hb fun j w g d v _ _ _ hv => tr_filter I d v hv

/-- the state of the run moves on by one -/
def upS (s : Nat → Bool) (i : Nat) : Nat → Bool := fun j => j == i || s j
theorem upS_same (s : Nat → Bool) (i : Nat) : upS s i i = true := by simp [upS]
theorem upS_other {s : Nat → Bool} {i j : Nat} (h : j ≠ i) : upS s i j = s j := by simp [upS, h]

/-- a pending one is carried out -/
theorem do_pending (hp : PlanOk E ops.toList plan) {y : PI} (I : DInv P E ops plan n0 N sz df R0 h0 W0 s D ρ T h R W a) (hy : y ∈ D) (hsy : s y.i = false)
    (hedge : ∀ e ∈ y.o.after.toList, Region.binds .any e = true → s e.on = true) {R' : RM} {W' : World} {d : Nat} {v : AV} {v' : Value} (hd : y.o.dst = some d) (hv : T.get d = some v) (hvr : VR R' v v')
    (hw' : WRel E R' h W') (he' : Ext n0 R h W R' h W') (hdN : d < sz) (hR : ∀ q ∈ D, s q.i = false → q.i ≠ y.i → q.c = .new → ∀ d2 v2 x, q.o.dst = some d2 → T.get d2 = some v2 → idOf v2 = some x → R x = none → R' x = none) :
    DInv P E ops plan n0 N sz df R0 h0 W0 (upS s y.i) D ρ T h R' W' (a.put y.o.dst v') := by
  have hle : RM.le R R' := he'.le
  have hother : ∀ j, upS s y.i j = false → s j = false ∧ j ≠ y.i := by
    intro j hj
    simp only [upS, Bool.or_eq_false_iff, beq_eq_false_iff_ne] at hj
    exact ⟨hj.2, hj.1⟩
  refine ⟨I.split, fun i hi => ?_, fun q hq hqc => ?_, fun i o hi ho e hee hb => ?_, hw', fun t x ht => ?_, fun q hq hs => ?_, fun q hq r hr hs1 hs2 hne d1 d2 v1 v2 x h1 h2 h3 h4 h5 h6 h7 h8 => ?_, I.ext.trans he' (Nat.le_refl _), ?_, I.n0le, I.N, ?_⟩
  · by_cases e : i = y.i
    · exact ⟨y, hy, e.symm⟩
    · rw [upS_other e] at hi; exact I.listed i hi
  · have := I.acts q hq hqc
    simp [upS, this]
  · by_cases e1 : i = y.i
    · subst e1
      have hit := (hp.item y (mem_plan_D I.split hy)).o
      have : ops[y.i]? = some y.o := by simpa using hit
      rw [this] at ho; simp only [Option.some.injEq] at ho; subst ho
      have := hedge e hee hb
      simp [upS, this]
    · rw [upS_other e1] at hi
      have := I.closed i o hi ho e hee hb
      simp [upS, this]
  · by_cases e : t = d
    · subst e
      right
      rw [hv] at ht; simp only [Option.some.injEq] at ht; subst ht
      refine ⟨v', ?_, hvr⟩
      simp only [Act.put, hd, Array.getElem?_setIfInBounds]
      rw [if_pos trivial, if_pos (by rw [I.asz]; exact hdN)]
    · have hput : (a.put y.o.dst v').tmps[t]? = a.tmps[t]? := by
        simp only [Act.put, hd, Array.getElem?_setIfInBounds]
        rw [if_neg fun q => e q.symm]
      rcases I.slots t x ht with ⟨q, hq, h1, h2⟩ | ⟨x', hx', hxr⟩
      · by_cases eq : q.i = y.i
        · have := idx_inj hp (mem_plan_D I.split hq) (mem_plan_D I.split hy) eq
          subst this
          rw [hd] at h2; simp only [Option.some.injEq] at h2
          exact absurd h2.symm e
        · exact .inl ⟨q, hq, by rw [upS_other eq]; exact h1, h2⟩
      · exact .inr ⟨x', by rw [hput]; exact hx', hxr.mono hle⟩
  · obtain ⟨hs', hne⟩ := hother _ hs
    have hpq := I.pend q hq hs'
    refine hpq.congr (fun _ _ => rfl) (fun _ _ => rfl) (fun w _ _ hop _ => hop) (fun blk mk id d2 hqc _ hnew hd2 hT hg hlt hRn => ⟨hg, hlt, ?_⟩)
    exact hR q hq hs' hne hqc d2 (mk id) id hd2 hT (idOf_mk hnew id) hRn
  · exact I.ids q hq r hr (hother _ hs1).1 (hother _ hs2).1 hne d1 d2 v1 v2 x h1 h2 h3 h4 h5 h6 h7 h8
  · rw [put_size]; exact I.asz
  · rw [put_defers]; exact I.adf

end
end Go.AE
