import Derived.Test.YtodgdijafcenbaaAE22
namespace Go.AE
section
variable {P : Program} {E : Env} {call : CallF} {ops : Array Oper} {plan : List PI} {n0 N sz : Nat} {df : List Deferred} {R0 R : RM} {h0 h : AH} {W0 W : World} {s : Nat → Bool} {D ρ : List PI} {T : PT AV} {a : Act}

theorem act_facts (hp : PlanOk E ops.toList plan) {y : PI} (I : DInv P E ops plan n0 N sz df R0 h0 W0 s D (y :: ρ) T h R W a) (hm : ∀ x, bitOf y.m x = true → s x = true) {p : PI} (hpD : p ∈ D) (hsp : s p.i = false) :
    bitOf y.m p.i = false ∧ ∀ d, y.o.dst = some d → (∀ t, memN t (readsOf ops.toList p.o) = true → t ≠ d) ∧ ∀ d', p.o.dst = some d' → d' ≠ d := by
  have hb : bitOf y.m p.i = false := by
    cases hb : bitOf y.m p.i with
    | false => rfl
    | true => rw [hm _ hb] at hsp; cases hsp
  obtain ⟨dp, hdp, h1, _, h3⟩ := pairOk_non (pair_of hp I.split hpD (q := y) (by simp)) (pend_not_act I hpD hsp)
  refine ⟨hb, fun d hd => ⟨fun t ht e => ?_, fun d' hd' e => ?_⟩⟩
  · subst e
    rw [(h3 t hd ht).2] at hb; cases hb
  · subst e
    rw [hdp] at hd'; simp only [Option.some.injEq] at hd'; subst hd'
    exact h1 hd

/-- an act is carried out, here and there -/
theorem do_act (hp : PlanOk E ops.toList plan) {y : PI} (I : DInv P E ops plan n0 N sz df R0 h0 W0 s D (y :: ρ) T h R W a) (hm : ∀ x, bitOf y.m x = true → s x = true)
    (hedge : ∀ e ∈ y.o.after.toList, Region.binds .any e = true → s e.on = true) {R' : RM} {W' : World} {h' : AH} {v : AV} {v' : Value} (hvr : VR R' v v')
    (hw' : WRel E R' h' W') (he' : ∀ n1, n1 ≤ h.n → Ext n1 R h W R' h' W') (hdN : ∀ d, y.o.dst = some d → d < sz)
    (hpend : ∀ p ∈ D, s p.i = false → PendOk E ops.toList R' n0 (aDst T y.o.dst v) h' p) :
    DInv P E ops plan n0 N sz df R0 h0 W0 (upS s y.i) (y :: D) ρ (aDst T y.o.dst v) h' R' W' (a.put y.o.dst v') := by
  have hym := mem_plan_r I.split (p := y) (by simp)
  have hle : RM.le R R' := (he' 0 (Nat.zero_le _)).le
  have hn0 : n0 ≤ h.n := Nat.le_trans I.n0le I.ext.n
  have hother : ∀ j, upS s y.i j = false → s j = false ∧ j ≠ y.i := by
    intro j hj
    simp only [upS, Bool.or_eq_false_iff, beq_eq_false_iff_ne] at hj
    exact ⟨hj.2, hj.1⟩
  have hget : ∀ p ∈ D, s p.i = false → ∀ d', p.o.dst = some d' → (aDst T y.o.dst v).get d' = T.get d' := by
    intro p hpD hsp d' hd'
    cases hyd : y.o.dst with
    | none => rfl
    | some d =>
      have := ((act_facts hp I hm hpD hsp).2 d hyd).2 d' hd'
      simp only [aDst, PT.get_set]
      rw [if_neg this]
  refine ⟨by simp only [List.reverse_cons, List.append_assoc, List.singleton_append]; exact I.split, fun i hi => ?_, fun q hq hqc => ?_, fun i o hi ho e hee hb => ?_, hw', fun t x ht => ?_, fun q hq hs => ?_, fun q hq r hr hs1 hs2 hne d1 d2 v1 v2 x h1 h2 h3 h4 h5 h6 h7 h8 => ?_, I.ext.trans (he' n0 hn0) (Nat.le_refl _), ?_, I.n0le, I.N, ?_⟩
  · by_cases e : i = y.i
    · exact ⟨y, by simp, e.symm⟩
    · rw [upS_other e] at hi
      obtain ⟨q, hq, he⟩ := I.listed i hi
      exact ⟨q, by simp [hq], he⟩
  · rcases List.mem_cons.1 hq with e | hq'
    · rw [e]; exact upS_same _ _
    · have := I.acts q hq' hqc
      simp [upS, this]
  · by_cases e1 : i = y.i
    · subst e1
      have hit := (hp.item y hym).o
      have : ops[y.i]? = some y.o := by simpa using hit
      rw [this] at ho; simp only [Option.some.injEq] at ho; subst ho
      have := hedge e hee hb
      simp [upS, this]
    · rw [upS_other e1] at hi
      have := I.closed i o hi ho e hee hb
      simp [upS, this]
  · cases hyd : y.o.dst with
    | none =>
      rw [hyd] at ht
      simp only [aDst] at ht
      rcases I.slots t x ht with ⟨q, hq, h1, h2⟩ | ⟨x', hx', hxr⟩
      · exact .inl ⟨q, by simp [hq], by rw [upS_other (disjoint_Dr hp I.split hq (by simp))]; exact h1, h2⟩
      · exact .inr ⟨x', by simpa [Act.put] using hx', hxr.mono hle⟩
    | some d =>
      rw [hyd] at ht
      simp only [aDst, PT.get_set] at ht
      by_cases e : t = d
      · subst e
        rw [if_pos rfl] at ht
        simp only [Option.some.injEq] at ht; subst ht
        right
        refine ⟨v', ?_, hvr⟩
        simp only [Act.put, Array.getElem?_setIfInBounds]
        rw [if_pos trivial, if_pos (by rw [I.asz]; exact hdN t hyd)]
      · rw [if_neg e] at ht
        rcases I.slots t x ht with ⟨q, hq, h1, h2⟩ | ⟨x', hx', hxr⟩
        · exact .inl ⟨q, by simp [hq], by rw [upS_other (disjoint_Dr hp I.split hq (by simp))]; exact h1, h2⟩
        · refine .inr ⟨x', ?_, hxr.mono hle⟩
          simp only [Act.put, Array.getElem?_setIfInBounds]
          rw [if_neg fun q => e q.symm]; exact hx'
  · obtain ⟨hs', hne⟩ := hother _ hs
    rcases List.mem_cons.1 hq with e | hq'
    · exact absurd (by rw [e]) hne
    · exact hpend q hq' hs'
  · obtain ⟨g1, g1'⟩ := hother _ hs1
    obtain ⟨g2, g2'⟩ := hother _ hs2
    rcases List.mem_cons.1 hq with e | hq'
    · exact g1' (by rw [e])
    · rcases List.mem_cons.1 hr with e | hr'
      · exact g2' (by rw [e])
      · rw [hget q hq' g1 d1 h1] at h3
        rw [hget r hr' g2 d2 h2] at h4
        exact I.ids q hq' r hr' g1 g2 hne d1 d2 v1 v2 x h1 h2 h3 h4 h5 h6 h7 h8
  · rw [put_size]; exact I.asz
  · rw [put_defers]; exact I.adf

theorem agains_spec {all : List Oper} {T : PT AV} {h : AH} {m : Nat} : ∀ {l : List PI}, agains E all T h m l = true → ∀ p ∈ l, bitOf m p.i = false → again E all T h p = true
  | [], _, p, hp, _ => by simp at hp
  | q :: l, h, p, hp, hb => by
    simp only [agains] at h
    split at h
    · rename_i hq
      rcases List.mem_cons.1 hp with e | hp'
      · rw [← e, hb] at hq; cases hq
      · exact agains_spec h p hp' hb
    · split at h
      · rename_i hag
        rcases List.mem_cons.1 hp with e | hp'
        · rw [e]; exact hag
        · exact agains_spec h p hp' hb
      · cases h

/-- what was looked at again still holds -/
theorem again_pend (hp : PlanOk E ops.toList plan) {y : PI} (I : DInv P E ops plan n0 N sz df R0 h0 W0 s D (y :: ρ) T h R W a) (hm : ∀ x, bitOf y.m x = true → s x = true) {v : AV} {h' : AH} {R' : RM}
    (hag : agains E ops.toList (aDst T y.o.dst v) h' y.m D = true) (hn : h.n ≤ h'.n) (hR : ∀ id, id < h.n → R' id = R id) :
    ∀ p ∈ D, s p.i = false → PendOk E ops.toList R' n0 (aDst T y.o.dst v) h' p := by
  intro p hpD hsp
  obtain ⟨hb, hf⟩ := act_facts hp I hm hpD hsp
  have hagp := agains_spec hag p hpD hb
  have hit := hp.item p (mem_plan_D I.split hpD)
  have hrd : ∀ t, memN t (readsOf ops.toList p.o) = true → T.get t = (aDst T y.o.dst v).get t := by
    intro t ht
    cases hyd : y.o.dst with
    | none => rfl
    | some d => simp only [aDst, PT.get_set]; rw [if_neg ((hf d hyd).1 t ht)]
  have hds : ∀ d', p.o.dst = some d' → T.get d' = (aDst T y.o.dst v).get d' := by
    intro d' hd'
    cases hyd : y.o.dst with
    | none => rfl
    | some d => simp only [aDst, PT.get_set]; rw [if_neg ((hf d hyd).2 d' hd')]
  have hwc := wanted_congr (ops := ops.toList) (o := p.o) hrd
  refine (I.pend p hpD hsp).congr hrd hds (fun w hpc hwant hop hw => ?_) (fun blk mk id d hpc hwant hnew hd hT hg hlt hRn => ?_)
  · rw [aOp_congr (reads_agree hrd)] at hop
    unfold again at hagp
    rw [← hwc, hwant] at hagp
    simp only at hagp
    obtain ⟨dd, vv, hdd, _, _⟩ := I.pend p hpD hsp
    rw [hdd] at hagp
    simp only [hw dd hdd, hpc] at hagp
    have hcls : clsOf E p.o.op = .rd := by rw [← hit.c]; exact hpc
    split at hagp
    · rename_i hbare
      obtain ⟨v2, e1, e2⟩ := bare_ok hbare hcls hop
      simp only [OR.val.injEq, and_true] at e1
      subst e1
      exact e2 h'
    · split at hagp
      · rename_i w2 h2 hop2
        have := beqV_eq hagp
        subst this
        obtain ⟨v3, e1, _⟩ := rd_ok hcls hop2
        simp only [OR.val.injEq] at e1
        rw [hop2, e1.2]
      · cases hagp
  · unfold again at hagp
    rw [← hwc, hwant] at hagp
    simp only [hd, hT, hpc, idOf_mk hnew] at hagp
    rw [← aNew_congr (reads_agree hrd), hnew] at hagp
    simp only at hagp
    refine ⟨?_, Nat.lt_of_lt_of_le hlt hn, by rw [hR id hlt]; exact hRn⟩
    split at hagp
    · rename_i b' hb'
      rw [hb', beqB_eq hagp]
    · cases hagp

/-- the reference comes to where the run is -/
theorem bring (hp : PlanOk E ops.toList plan) {y : PI} (hsy : s y.i = false) (hm : ∀ x, bitOf y.m x = true → s x = true) {T1 : PT AV} {h1 : AH} : ∀ (ρ D : List PI) (T : PT AV) (h : AH),
    DInv P E ops plan n0 N sz df R0 h0 W0 s D ρ T h R W a → dRun E call ops.toList ρ D T h = some (T1, h1) → (y ∈ D ∨ y ∈ ρ) →
    ∃ D' ρ' T' h', DInv P E ops plan n0 N sz df R0 h0 W0 s D' ρ' T' h' R W a ∧ dRun E call ops.toList ρ' D' T' h' = some (T1, h1) ∧ (y ∈ D' ∨ (∃ ρ2, ρ' = y :: ρ2) ∧ y.c = .act)
  | ρ, D, T, h, I, hr, .inl hy => ⟨D, ρ, T, h, I, hr, .inl hy⟩
  | [], D, T, h, I, hr, .inr hy => by simp at hy
  | p :: ρ, D, T, h, I, hr, .inr hy => by
    by_cases he : p = y
    · subst he
      by_cases hc : p.c = .act
      · exact ⟨D, p :: ρ, T, h, I, hr, .inr ⟨⟨ρ, rfl⟩, hc⟩⟩
      · obtain ⟨T', h', I', hr'⟩ := advance hp I hc hr
        exact ⟨p :: D, ρ, T', h', I', hr', .inl (by simp)⟩
    · have hyr : y ∈ ρ := by
        rcases List.mem_cons.1 hy with e | e
        · exact absurd e.symm he
        · exact e
      have hc : p.c ≠ .act := by
        intro hc
        have hpw := hp.pair
        rw [← I.split, List.pairwise_append] at hpw
        have h2 := (List.pairwise_cons.1 hpw.2.1).1 y hyr
        have h3 := hm _ (pairOk_act h2 hc)
        obtain ⟨q, hq, hqe⟩ := I.listed _ h3
        exact absurd hqe (disjoint_Dr hp I.split hq (by simp))
      obtain ⟨T', h', I', hr'⟩ := advance hp I hc hr
      exact bring hp hsy hm ρ (p :: D) T' h' I' hr' (.inr hyr)

end
end Go.AE
