import Derived.Test.YtodgdijafcenbaaAE19
namespace Go.AE
section
variable {P : Program} {E : Env}

/-- one that the reference has carried out and the run has not: it will give the same -/
def PendOk (E : Env) (ops : List Oper) (R : RM) (n0 : Nat) (T : PT AV) (h : AH) (p : PI) : Prop :=
  ∃ d v, p.o.dst = some d ∧ T.get d = some v ∧
    ((aWanted ops T p.o = some false ∧ v = AV.undef) ∨
     (aWanted ops T p.o = some true ∧ p.c = .rd ∧ aOp E T p.o.op h = some (.val v h)) ∨
     (aWanted ops T p.o = some true ∧ p.c = .new ∧ ∃ blk mk id, aNew E T p.o.op = some (blk, mk) ∧ v = mk id ∧ h.h.get id = some blk ∧ id < h.n ∧ n0 ≤ id ∧ R id = none))

/-- the slots that one reads -/
theorem wanted_congr {ops : List Oper} {T T' : PT AV} {o : Oper} (h : ∀ t, memN t (readsOf ops o) = true → T.get t = T'.get t) : aWanted ops T o = aWanted ops T' o := by
  unfold aWanted
  unfold readsOf at h
  cases hg : o.guard with
  | none => rfl
  | some p =>
    obtain ⟨j, w⟩ := p
    rw [hg] at h
    simp only at h ⊢
    cases hj : nth ops j with
    | none => rfl
    | some g =>
      rw [hj] at h
      simp only at h ⊢
      cases hd : g.dst with
      | none => rfl
      | some d =>
        rw [hd] at h
        simp only at h ⊢
        rw [h d (by simp [memN])]

theorem reads_agree {ops : List Oper} {T T' : PT AV} {o : Oper} (h : ∀ t, memN t (readsOf ops o) = true → T.get t = T'.get t) : agree T T' o.op.operands.toList := by
  refine agree_of fun t ht => h t ?_
  unfold readsOf
  cases o.guard with
  | none => exact (memN_iff _ _).2 ht
  | some p =>
    obtain ⟨j, w⟩ := p
    simp only
    cases nth ops j with
    | none => exact (memN_iff _ _).2 ht
    | some g =>
      simp only
      cases g.dst with
      | none => exact (memN_iff _ _).2 ht
      | some d => exact (memN_iff _ _).2 (by simp [ht])

theorem PendOk.congr {ops : List Oper} {R R' : RM} {n0 : Nat} {T T' : PT AV} {h h' : AH} {p : PI} (hp : PendOk E ops R n0 T h p) (hr : ∀ t, memN t (readsOf ops p.o) = true → T.get t = T'.get t)
    (hd : ∀ d, p.o.dst = some d → T.get d = T'.get d)
    (hrd : ∀ v, p.c = .rd → aWanted ops T p.o = some true → aOp E T p.o.op h = some (.val v h) → (∀ d, p.o.dst = some d → T'.get d = some v) → aOp E T' p.o.op h' = some (.val v h'))
    (hnew : ∀ blk mk id d, p.c = .new → aWanted ops T p.o = some true → aNew E T p.o.op = some (blk, mk) → p.o.dst = some d → T'.get d = some (mk id) → h.h.get id = some blk → id < h.n → R id = none → h'.h.get id = some blk ∧ id < h'.n ∧ R' id = none) :
    PendOk E ops R' n0 T' h' p := by
  obtain ⟨d, v, hdst, hv, hc⟩ := hp
  have hw := wanted_congr (ops := ops) (o := p.o) hr
  have hag := reads_agree (ops := ops) (o := p.o) hr
  have hv' : T'.get d = some v := by rw [← hd d hdst]; exact hv
  refine ⟨d, v, hdst, hv', ?_⟩
  rcases hc with ⟨h1, h2⟩ | ⟨h1, h2, h3⟩ | ⟨h1, h2, blk, mk, id, h3, h4, h5, h6, h7, h8⟩
  · exact .inl ⟨by rw [← hw]; exact h1, h2⟩
  · exact .inr (.inl ⟨by rw [← hw]; exact h1, h2, hrd v h2 h1 h3 fun d' hd' => by rw [hdst] at hd'; simp only [Option.some.injEq] at hd'; subst hd'; exact hv'⟩)
  · obtain ⟨g1, g2, g3⟩ := hnew blk mk id d h2 h1 h3 hdst (by rw [hv', h4]) h5 h6 h8
    exact .inr (.inr ⟨by rw [← hw]; exact h1, h2, blk, mk, id, by rw [← aNew_congr hag]; exact h3, h4, g1, g2, h7, g3⟩)

structure DInv (P : Program) (E : Env) (ops : Array Oper) (plan : List PI) (n0 N sz : Nat) (df : List Deferred) (R0 : RM) (h0 : AH) (W0 : World) (s : Nat → Bool) (D ρ : List PI) (T : PT AV) (h : AH) (R : RM) (W : World) (a : Act) : Prop where
  split : D.reverse ++ ρ = plan
  listed : ∀ i, s i = true → ∃ p ∈ D, p.i = i
  acts : ∀ p ∈ D, p.c = .act → s p.i = true
  closed : ∀ i o, s i = true → ops[i]? = some o → ∀ e ∈ o.after.toList, Region.binds .any e = true → s e.on = true
  rel : WRel E R h W
  slots : ∀ t v, T.get t = some v → (∃ p ∈ D, s p.i = false ∧ p.o.dst = some t) ∨ ∃ v', a.tmps[t]? = some v' ∧ VR R v v'
  pend : ∀ p ∈ D, s p.i = false → PendOk E ops.toList R n0 T h p
  ids : ∀ p ∈ D, ∀ q ∈ D, s p.i = false → s q.i = false → p.i ≠ q.i → ∀ d d' v v' x, p.o.dst = some d → q.o.dst = some d' → T.get d = some v → T.get d' = some v' →
    p.c = .new → q.c = .new → idOf v = some x → idOf v' = some x → False
  ext : Ext n0 R0 h0 W0 R h W
  asz : a.tmps.size = sz
  n0le : n0 ≤ h0.n
  N : N ≤ sz
  adf : a.defers = df

section
variable {ops : Array Oper} {plan : List PI} {n0 N sz : Nat} {df : List Deferred} {R0 R : RM} {h0 h : AH} {W0 W : World} {s : Nat → Bool} {D ρ : List PI} {T : PT AV} {a : Act}

theorem anc_listed (hcl : ∀ i o, s i = true → ops[i]? = some o → ∀ e ∈ o.after.toList, Region.binds .any e = true → s e.on = true) {y x : Nat} (ha : Anc ops.toList y x) :
    (∀ o, ops[y]? = some o → ∀ e ∈ o.after.toList, Region.binds .any e = true → s e.on = true) → s x = true := by
  induction ha with
  | edge j o e ho he hb => intro hy; exact hy o (by simpa using ho) e he hb
  | trans j o e ho he hb x hx ih =>
    intro hy
    have hs := hy o (by simpa using ho) e he hb
    exact ih fun o' ho' e' he' hb' => hcl _ o' hs ho' e' he' hb'

/-- what stands ahead in the plan -/
theorem pair_of (hp : PlanOk E ops.toList plan) (hs : D.reverse ++ ρ = plan) {p q : PI} (h1 : p ∈ D) (h2 : q ∈ ρ) : pairOk ops.toList p q = true := by
  have := hp.pair
  rw [← hs, List.pairwise_append] at this
  exact this.2.2 p (by simpa using h1) q h2

theorem pair_or (hp : PlanOk E ops.toList plan) (hs : D.reverse ++ ρ = plan) {p q : PI} (h1 : p ∈ D) (h2 : q ∈ D) (hne : p.i ≠ q.i) : pairOk ops.toList p q = true ∨ pairOk ops.toList q p = true := by
  have := hp.pair
  rw [← hs, List.pairwise_append] at this
  have hpw := this.1
  have hp1 : p ∈ D.reverse := by simpa using h1
  have hp2 : q ∈ D.reverse := by simpa using h2
  have key : ∀ (l : List PI), l.Pairwise (fun p q => pairOk ops.toList p q = true) → p ∈ l → q ∈ l → pairOk ops.toList p q = true ∨ pairOk ops.toList q p = true := by
    intro l
    induction l with
    | nil => intro _ h; simp at h
    | cons x l ih =>
      intro hl h1 h2
      rw [List.pairwise_cons] at hl
      rcases List.mem_cons.1 h1 with e1 | g1
      · rcases List.mem_cons.1 h2 with e2 | g2
        · exact absurd (by rw [e1, e2]) hne
        · exact .inl (e1 ▸ hl.1 _ g2)
      · rcases List.mem_cons.1 h2 with e2 | g2
        · exact .inr (e2 ▸ hl.1 _ g1)
        · exact ih hl.2 g1 g2
  exact key _ hpw hp1 hp2

theorem mem_plan_D (hs : D.reverse ++ ρ = plan) {p : PI} (h : p ∈ D) : p ∈ plan := by rw [← hs]; simp [h]
theorem mem_plan_r (hs : D.reverse ++ ρ = plan) {p : PI} (h : p ∈ ρ) : p ∈ plan := by rw [← hs]; simp [h]

theorem idx_inj (hp : PlanOk E ops.toList plan) {p q : PI} (h1 : p ∈ plan) (h2 : q ∈ plan) (he : p.i = q.i) : p = q := by
  have hn := hp.nodup
  have key : ∀ (l : List PI), (l.map (·.i)).Nodup → p ∈ l → q ∈ l → p = q := by
    intro l
    induction l with
    | nil => intro _ h; simp at h
    | cons x l ih =>
      intro hl h1 h2
      simp only [List.map_cons, List.nodup_cons] at hl
      rcases List.mem_cons.1 h1 with e1 | g1
      · rcases List.mem_cons.1 h2 with e2 | g2
        · rw [e1, e2]
        · exact absurd (List.mem_map.2 ⟨q, g2, by rw [← e1]; exact he.symm⟩) hl.1
      · rcases List.mem_cons.1 h2 with e2 | g2
        · exact absurd (List.mem_map.2 ⟨p, g1, by rw [← e2]; exact he⟩) hl.1
        · exact ih hl.2 g1 g2
  exact key plan hn h1 h2

theorem disjoint_Dr (hp : PlanOk E ops.toList plan) (hs : D.reverse ++ ρ = plan) {p q : PI} (h1 : p ∈ D) (h2 : q ∈ ρ) : p.i ≠ q.i := by
  intro he
  have hn := hp.nodup
  rw [← hs, List.map_append, List.nodup_append] at hn
  exact hn.2.2 p.i (List.mem_map.2 ⟨p, by simpa using h1, rfl⟩) q.i (List.mem_map.2 ⟨q, h2, rfl⟩) he

/-- what pairOk says -/
theorem pairOk_act {x y : PI} (h : pairOk ops.toList x y = true) (hc : x.c = .act) : bitOf y.m x.i = true := by
  unfold pairOk at h
  rw [hc] at h
  simp only [Cls.isAct] at h
  split at h
  · assumption
  · cases h

theorem pairOk_non {x y : PI} (h : pairOk ops.toList x y = true) (hc : x.c ≠ .act) : ∃ d, x.o.dst = some d ∧ y.o.dst ≠ some d ∧ (memN d (readsOf ops.toList y.o) = true → bitOf y.m x.i = true) ∧
    ∀ d', y.o.dst = some d' → memN d' (readsOf ops.toList x.o) = true → y.c = .act ∧ bitOf y.m x.i = true := by
  unfold pairOk at h
  have hna : x.c.isAct = false := by cases hx : x.c <;> simp_all [Cls.isAct]
  rw [hna] at h
  simp only at h
  split at h
  · cases h
  · rename_i d hd
    refine ⟨d, hd, ?_⟩
    split at h
    · cases h
    · rename_i h1
      split at h
      · cases h
      · split at h
        · cases h
        · rename_i h3
          refine ⟨fun he => ?_, fun hm => ?_, fun d' hd' hm' => ?_⟩
          · rw [he] at h1; simp at h1
          · rw [hm] at h3; exact h3
          · rw [hd'] at h
            simp only [hm'] at h
            cases hy : y.c <;> rw [hy] at h <;> simp only [Cls.isAct] at h
            · cases h
            · cases h
            · exact ⟨rfl, h⟩

theorem guardOk_non {x : PI} (h : guardOk ops.toList x = true) (hc : x.c ≠ .act) : ∃ d, x.o.dst = some d ∧ memN d (readsOf ops.toList x.o) = false := by
  unfold guardOk at h
  have hna : x.c.isAct = false := by cases hx : x.c <;> simp_all [Cls.isAct]
  split at h
  · cases h
  · rw [hna] at h
    simp only at h
    split at h
    · cases h
    · rename_i d hd
      split at h
      · cases h
      · rename_i hm; exact ⟨d, hd, hm⟩

end
end
end Go.AE
