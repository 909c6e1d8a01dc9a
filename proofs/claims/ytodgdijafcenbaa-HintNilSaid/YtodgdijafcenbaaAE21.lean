import Derived.Test.YtodgdijafcenbaaAE20
namespace Go.AE
section
variable {P : Program} {E : Env} {call : CallF} {ops : Array Oper} {plan : List PI} {n0 N sz : Nat} {df : List Deferred} {R0 R : RM} {h0 h : AH} {W0 W : World} {s : Nat → Bool} {D ρ : List PI} {T : PT AV} {a : Act}

/-- all that lies in the heap lies there behind a new block, too -/
theorem sub_new (hw : WRel E R h W) (b : AB) : AH.sub h (h.new b) := by
  intro id x hx
  rw [get_new_other]
  · exact hx
  · intro e; have := hw.wf id (by rw [e]; exact Nat.le_refl _); rw [this] at hx; cases hx

theorem WRel.pending (hw : WRel E R h W) (b : AB) : WRel E R (h.new b) W := by
  have hn := hw.fresh h.n (Nat.le_refl _)
  have hg : ∀ id r x, R id = some r → (h.new b).h.get id = some x → h.h.get id = some x := by
    intro id r x hr hx
    rw [get_new_other] at hx
    · exact hx
    · intro e; rw [e, hn] at hr; cases hr
  exact ⟨fun id hid => hw.fresh id (Nat.le_of_succ_le hid), fun id hid => by
      have hid' : h.n + 1 ≤ id := hid
      rw [get_new_other _ _ _ (by omega)]; exact hw.wf id (by omega),
    hw.lt, fun id r x hr hx => hw.blocks id r x hr (hg id r x hr hx), fun id id' r r' x x' hne hr hr' hx hx' ho hl => hw.apart id id' r r' x x' hne hr hr' (hg id r x hr hx) (hg id' r' x' hr' hx') ho hl⟩

theorem Ext.pending (he : Ext n0 R0 h0 W0 R h W) (hw : WRel E R h W) (b : AB) : Ext n0 R0 h0 W0 R (h.new b) W :=
  ⟨he.le, Nat.le_succ_of_le he.n, he.os, he.tape, he.output, he.size, he.frame, (fun k hk => by
    obtain ⟨id, r, x, hr, hx, ho, hkk⟩ := hk
    rw [get_new_other _ _ _ (fun e => by rw [e, hw.fresh h.n (Nat.le_refl _)] at hr; cases hr)] at hx
    exact he.own k ⟨id, r, x, hr, hx, ho, hkk⟩), he.fresh⟩

/-- a pending one is no act -/
theorem pend_not_act (I : DInv P E ops plan n0 N sz df R0 h0 W0 s D ρ T h R W a) {q : PI} (hq : q ∈ D) (hs : s q.i = false) : q.c ≠ .act := by
  intro hc
  rw [I.acts q hq hc] at hs
  cases hs

theorem pend_id (I : DInv P E ops plan n0 N sz df R0 h0 W0 s D ρ T h R W a) {q : PI} (hq : q ∈ D) (hs : s q.i = false) {d : Nat} {v : AV} {x : Nat} (hd : q.o.dst = some d) (hv : T.get d = some v) (hc : q.c = .new) (hx : idOf v = some x) : x < h.n := by
  obtain ⟨d', v', h1, h2, h3⟩ := I.pend q hq hs
  rw [hd] at h1; simp only [Option.some.injEq] at h1; subst h1
  rw [hv] at h2; simp only [Option.some.injEq] at h2; subst h2
  rcases h3 with ⟨_, rfl⟩ | ⟨_, h3, _⟩ | ⟨_, _, blk, mk, id, h3, rfl, _, h5, _⟩
  · cases hx
  · rw [hc] at h3; cases h3
  · rw [idOf_mk h3] at hx; simp only [Option.some.injEq] at hx; omega

theorem advance_core (hp : PlanOk E ops.toList plan) {p : PI} (I : DInv P E ops plan n0 N sz df R0 h0 W0 s D (p :: ρ) T h R W a) (hc : p.c ≠ .act) {d : Nat} (hd : p.o.dst = some d) {v : AV} {h' : AH}
    (hw' : WRel E R h' W) (he' : Ext n0 R0 h0 W0 R h' W) (hsub : AH.sub h h') (hn' : h.n ≤ h'.n) (hpend : PendOk E ops.toList R n0 (T.set d v) h' p)
    (hid : p.c = .new → ∀ x, idOf v = some x → h.n ≤ x) : DInv P E ops plan n0 N sz df R0 h0 W0 s (p :: D) ρ (T.set d v) h' R W a := by
  have hpm := mem_plan_r I.split (p := p) (by simp)
  have hsp : s p.i = false := by
    cases hs : s p.i with
    | false => rfl
    | true =>
      obtain ⟨q, hq, he⟩ := I.listed _ hs
      exact absurd he (disjoint_Dr hp I.split hq (by simp))
  have hfacts : ∀ q ∈ D, s q.i = false → (∀ t, memN t (readsOf ops.toList q.o) = true → t ≠ d) ∧ ∀ d', q.o.dst = some d' → d' ≠ d := by
    intro q hq hs
    obtain ⟨dq, hdq, h1, h2, h3⟩ := pairOk_non (pair_of hp I.split hq (q := p) (by simp)) (pend_not_act I hq hs)
    refine ⟨fun t ht e => ?_, fun d' hd' e => ?_⟩
    · subst e
      exact hc (h3 t hd ht).1
    · subst e
      rw [hdq] at hd'; simp only [Option.some.injEq] at hd'; subst hd'
      exact h1 hd
  have hget : ∀ t, t ≠ d → T.get t = (T.set d v).get t := fun t ht => by rw [PT.get_set, if_neg ht]
  refine ⟨by simp only [List.reverse_cons, List.append_assoc, List.singleton_append]; exact I.split, fun i hi => ?_, fun q hq hqc => ?_, I.closed, hw', fun t x ht => ?_, fun q hq hs => ?_, fun q hq r hr hs1 hs2 hne d1 d2 v1 v2 x h1 h2 h3 h4 h5 h6 h7 h8 => ?_, he', I.asz, I.n0le, I.N, I.adf⟩
  · obtain ⟨q, hq, he⟩ := I.listed i hi
    exact ⟨q, by simp [hq], he⟩
  · rcases List.mem_cons.1 hq with rfl | hq
    · exact absurd hqc hc
    · exact I.acts q hq hqc
  · rw [PT.get_set] at ht
    by_cases e : t = d
    · subst e; exact .inl ⟨p, by simp, hsp, hd⟩
    · rw [if_neg e] at ht
      rcases I.slots t x ht with ⟨q, hq, h1, h2⟩ | h1
      · exact .inl ⟨q, by simp [hq], h1, h2⟩
      · exact .inr h1
  · rcases List.mem_cons.1 hq with rfl | hq
    · exact hpend
    · obtain ⟨f1, f2⟩ := hfacts q hq hs
      have hag : ∀ t, memN t (readsOf ops.toList q.o) = true → T.get t = (T.set d v).get t := fun t ht => hget t (f1 t ht)
      refine (I.pend q hq hs).congr hag (fun d' hd' => hget d' (f2 d' hd')) (fun w hqc _ hop _ => ?_) (fun blk mk id d' _ _ _ _ _ hg hlt hR => ⟨hsub _ _ hg, Nat.lt_of_lt_of_le hlt hn', hR⟩)
      have hit := hp.item q (mem_plan_D I.split hq)
      obtain ⟨w', hw1, hw2⟩ := rd_ok (E := E) (T := T) (h := h) (by rw [← hit.c]; exact hqc) hop
      simp only [OR.val.injEq, and_true] at hw1
      subst hw1
      rw [← aOp_congr (reads_agree hag)]
      exact hw2 h' hsub
  · -- two names
    have one : ∀ (q : PI), q ∈ D → s q.i = false → ∀ d1 v1, q.o.dst = some d1 → (T.set d v).get d1 = some v1 → T.get d1 = some v1 := by
      intro q hq hs d1 v1 hd1 hv1
      rw [hget d1 ((hfacts q hq hs).2 d1 hd1)]; exact hv1
    have ofp : ∀ d1 v1, p.o.dst = some d1 → (T.set d v).get d1 = some v1 → v1 = v := by
      intro d1 v1 hd1 hv1
      rw [hd] at hd1; simp only [Option.some.injEq] at hd1; subst hd1
      rw [PT.get_set, if_pos rfl] at hv1
      simp only [Option.some.injEq] at hv1; exact hv1.symm
    rcases List.mem_cons.1 hq with e1 | hq'
    · rcases List.mem_cons.1 hr with e2 | hr'
      · exact hne (by rw [e1, e2])
      · subst e1
        have := ofp d1 v1 h1 h3
        subst this
        have g1 := hid h5 x h7
        have g2 := pend_id I hr' hs2 h2 (one r hr' hs2 d2 v2 h2 h4) h6 h8
        omega
    · rcases List.mem_cons.1 hr with e2 | hr'
      · subst e2
        have := ofp d2 v2 h2 h4
        subst this
        have g1 := hid h6 x h8
        have g2 := pend_id I hq' hs1 h1 (one q hq' hs1 d1 v1 h1 h3) h5 h7
        omega
      · exact I.ids q hq' r hr' hs1 hs2 hne d1 d2 v1 v2 x h1 h2 (one q hq' hs1 d1 v1 h1 h3) (one r hr' hs2 d2 v2 h2 h4) h5 h6 h7 h8

/-- the reference carries out one that only reads or makes memory: it pends -/
theorem advance (hp : PlanOk E ops.toList plan) {p : PI} (I : DInv P E ops plan n0 N sz df R0 h0 W0 s D (p :: ρ) T h R W a) (hc : p.c ≠ .act) {T1 : PT AV} {h1 : AH}
    (hr : dRun E call ops.toList (p :: ρ) D T h = some (T1, h1)) : ∃ T' h', DInv P E ops plan n0 N sz df R0 h0 W0 s (p :: D) ρ T' h' R W a ∧ dRun E call ops.toList ρ (p :: D) T' h' = some (T1, h1) := by
  have hpm := mem_plan_r I.split (p := p) (by simp)
  have hit := hp.item p hpm
  obtain ⟨d, hd, hself⟩ := guardOk_non (hp.guard p hpm) hc
  have hget : ∀ v t, memN t (readsOf ops.toList p.o) = true → T.get t = (T.set d v).get t := fun v t ht => by
    rw [PT.get_set, if_neg fun e => by subst e; rw [hself] at ht; cases ht]
  have hn0 : n0 ≤ h.n := Nat.le_trans I.n0le I.ext.n
  simp only [dRun] at hr
  split at hr
  · rename_i hw
    refine ⟨T.set d AV.undef, h, ?_, by rw [hd] at hr; exact hr⟩
    refine advance_core hp I hc hd I.rel I.ext (fun _ _ h => h) (Nat.le_refl _) ⟨d, AV.undef, hd, by rw [PT.get_set, if_pos rfl], .inl ⟨by rw [← wanted_congr (hget _)]; exact hw, rfl⟩⟩ fun _ x hx => by cases hx
  · rename_i hw
    have hw' : ∀ v, aWanted ops.toList (T.set d v) p.o = some true := fun v => by rw [← wanted_congr (hget _)]; exact hw
    cases hpc : p.c with
    | act => exact absurd hpc hc
    | rd =>
      split at hr
      · rename_i v h2 hop
        refine ⟨T.set d v, h2, ?_, by rw [hd] at hr; exact hr⟩
        obtain ⟨v', e1, e2⟩ := rd_ok (E := E) (T := T) (h := h) (by rw [← hit.c]; exact hpc) hop
        simp only [OR.val.injEq] at e1
        obtain ⟨rfl, rfl⟩ := e1
        refine advance_core hp I hc hd I.rel I.ext (fun _ _ h => h) (Nat.le_refl _) ⟨d, v, hd, by rw [PT.get_set, if_pos rfl], .inr (.inl ⟨hw' v, hpc, ?_⟩)⟩ fun e => by rw [hpc] at e; cases e
        rw [← aOp_congr (reads_agree (hget v))]; exact hop
      · cases hr
    | new =>
      split at hr
      · rename_i v h2 hop
        refine ⟨T.set d v, h2, ?_, by rw [hd] at hr; exact hr⟩
        rw [aOp_new (by rw [← hit.c]; exact hpc)] at hop
        unfold oNew at hop
        split at hop
        · rename_i blk mk hnew
          simp only [Option.some.injEq, OR.val.injEq] at hop
          obtain ⟨rfl, rfl⟩ := hop
          refine advance_core hp I hc hd (I.rel.pending blk) (I.ext.pending I.rel blk) (sub_new I.rel blk) (Nat.le_succ _)
            ⟨d, mk h.n, hd, by rw [PT.get_set, if_pos rfl], .inr (.inr ⟨hw' _, hpc, blk, mk, h.n, by rw [← aNew_congr (reads_agree (hget _))]; exact hnew, rfl, get_new_same h blk, Nat.lt_succ_self _, hn0, I.rel.fresh _ (Nat.le_refl _)⟩)⟩ fun _ x hx => ?_
          rw [idOf_mk hnew] at hx
          simp only [Option.some.injEq] at hx
          omega
        · cases hop
      · cases hr
  · cases hr

end
end Go.AE
