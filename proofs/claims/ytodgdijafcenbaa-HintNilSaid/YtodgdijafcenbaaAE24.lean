import Derived.Test.YtodgdijafcenbaaAE23
namespace Go.AE
section
variable {P : Program} {E : Env} {call : CallF} {ops : Array Oper} {plan : List PI} {n0 N sz : Nat} {df : List Deferred} {R0 : RM} {h0 : AH} {W0 : World}

theorem dSim (hE : EnvOk P E) (hC : CallOk P E call) (hp : PlanOk E ops.toList plan) (hds : dstOk N ops.toList = true) {T1 : PT AV} {h1 : AH} {Q : Exit → Act → World → Prop}
    (fin : ∀ R' W' a', WRel E R' h1 W' → TR R' T1 a'.tmps → a'.tmps.size = sz → a'.defers = df → Ext n0 R0 h0 W0 R' h1 W' → Q .normal a' W') :
    ∀ (rest : List Nat) (s : Nat → Bool), Lin ops s rest → ∀ (D ρ : List PI) (T : PT AV) (h : AH) (R : RM) (W : World) (a : Act),
      DInv P E ops plan n0 N sz df R0 h0 W0 s D ρ T h R W a → dRun E call ops.toList ρ D T h = some (T1, h1) → wpOps P ops Q rest a W := by
  intro rest s hl
  induction hl with
  | done s hall =>
    intro D ρ T h R W a I hr
    have hlt : ∀ p ∈ plan, p.i < ops.size := fun p hp' => by
      have := (hp.item p hp').o
      have := (List.getElem?_eq_some_iff.1 this).1
      simpa using this
    have hρ : ρ = [] := by
      cases ρ with
      | nil => rfl
      | cons p ρ =>
        obtain ⟨q, hq, he⟩ := I.listed p.i (hall _ (hlt p (mem_plan_r I.split (by simp))))
        exact absurd he (disjoint_Dr hp I.split hq (by simp))
    subst hρ
    simp only [dRun, Option.some.injEq, Prod.mk.injEq] at hr
    obtain ⟨rfl, rfl⟩ := hr
    refine fin R W a I.rel (fun t v ht => ?_) I.asz I.adf I.ext
    rcases I.slots t v ht with ⟨p, hpD, hsp, _⟩ | h
    · rw [hall _ (hlt p (mem_plan_D I.split hpD))] at hsp; cases hsp
    · exact h
  | step s i rest hi hs he hr ih =>
    intro D ρ T h R W a I hrun
    obtain ⟨y, hy, hyi⟩ := hp.all i (by simpa using hi)
    subst hyi
    have hit := hp.item y hy
    have ho : ops[y.i]? = some y.o := by have := hit.o; simpa using this
    have hedge : ∀ e ∈ y.o.after.toList, Region.binds .any e = true → s e.on = true := he y.o ho
    have hm : ∀ x, bitOf y.m x = true → s x = true := fun x hx => anc_listed I.closed (hit.anc x hx) fun o ho' => by
      rw [ho] at ho'; simp only [Option.some.injEq] at ho'; subst ho'; exact hedge
    have hdN : ∀ d, y.o.dst = some d → d < sz := fun d hd => Nat.lt_of_lt_of_le (dstOk_spec hds y.o (by
      have := List.mem_of_getElem? hit.o; exact this) d hd) I.N
    obtain ⟨D', ρ', T', h', I', hrun', hcase⟩ := bring hp hs hm ρ D T h I hrun (by rw [← I.split] at hy; simpa using hy)
    clear I hrun
    have hup : (fun j => j == y.i || s j) = upS s y.i := rfl
    rw [hup] at ih
    simp only [wpOps, ho]
    rcases hcase with hyD | ⟨⟨ρ2, rfl⟩, hya⟩
    · -- it pends
      have hyp := mem_plan_D I'.split hyD
      obtain ⟨d, v, hd, hv, hc⟩ := I'.pend y hyD hs
      have hfs := filter_same hp I' hyp hs hm
      have hpidR : ∀ (R2 : RM), (∀ id, id < h'.n → R2 id = R id) → ∀ q ∈ D', s q.i = false → q.i ≠ y.i → q.c = .new → ∀ d2 v2 x, q.o.dst = some d2 → T'.get d2 = some v2 → idOf v2 = some x → R x = none → R2 x = none := by
        intro R2 h2 q hq hsq _ hqc d2 v2 x hd2 hv2 hx hRx
        rw [h2 x (pend_id I' hq hsq hd2 hv2 hqc hx)]; exact hRx
      rcases hc with ⟨hw, rfl⟩ | ⟨hw, hyc, hop⟩ | ⟨hw, hyc, blk, mk, id, hnew, rfl, hg, hlt, hn0, hRn⟩
      · rw [wanted_there hp I' hyp hs hm hw]
        simp only [Bool.false_eq_true, if_false]
        exact ih D' ρ' T' h' R W _ (do_pending hp I' hyD hs hedge hd hv (VR.undef R) I'.rel (.refl _ _ _ _) (hdN d hd) (hpidR R fun _ _ => rfl)) hrun'
      · rw [wanted_there hp I' hyp hs hm hw]
        simp only [if_true]
        left
        rw [aOp_congr (reads_agree hfs)] at hop
        obtain ⟨v', W', R', hrn, hvr, hw', hext⟩ := aOp_ok hE I'.rel (tr_filter I') hop
        have hn0 : n0 ≤ h'.n := Nat.le_trans I'.n0le I'.ext.n
        have hgo := ih D' ρ' T' h' R' W' _ (do_pending hp I' hyD hs hedge hd hv hvr hw' (hext n0 hn0) (hdN d hd) (hpidR R' (hext h'.n (Nat.le_refl _)).fresh)) hrun'
        unfold Oper.wp
        rcases hrn with hrn | ⟨hrn, rfl⟩
        · rw [hrn]; exact hgo
        · rw [hrn]; exact hgo
      · rw [wanted_there hp I' hyp hs hm hw]
        simp only [if_true]
        left
        rw [aNew_congr (reads_agree hfs)] at hnew
        obtain ⟨o, r, v', hrn, hrb, hbr, hvr⟩ := aNew_ok (W := W) hE (tr_filter I') hnew
        obtain ⟨g1, g2⟩ := new_rel I'.rel hRn hlt (Nat.le_refl _) (fun _ _ => rfl) hg o r hrb hbr
        have hgo := ih D' ρ' T' h' (R.upd id r) (W.alloc o) _ (do_pending hp I' hyD hs hedge hd hv (hvr _ id (RM.upd_same _ _ _)) g1 (g2 n0 hn0) (hdN d hd) (by
          intro q hq hsq hne hqc d2 v2 x hd2 hv2 hx hRx
          rw [RM.upd_other _ _ (fun e => by
            subst e
            exact I'.ids q hq y hyD hsq hs hne d2 d v2 (mk x) x hd2 hd hv2 hv hqc hyc hx (idOf_mk hnew x))]
          exact hRx)) hrun'
        unfold Oper.wp
        rw [hrn]; exact hgo
    · -- an act
      have hyp := mem_plan_r I'.split (p := y) (by simp)
      have hfs := filter_same hp I' hyp hs hm
      simp only [dRun] at hrun'
      split at hrun'
      · rename_i hw
        rw [wanted_there hp I' hyp hs hm hw]
        simp only [Bool.false_eq_true, if_false]
        refine ih (y :: D') ρ2 _ h' R W _ (do_act hp I' hm hedge (VR.undef R) I'.rel (fun _ _ => .refl _ _ _ _) hdN fun p hpD hsp => ?_) hrun'
        obtain ⟨_, hf⟩ := act_facts hp I' hm hpD hsp
        have hrd : ∀ t, memN t (readsOf ops.toList p.o) = true → T'.get t = (aDst T' y.o.dst AV.undef).get t := by
          intro t ht
          cases hyd : y.o.dst with
          | none => rfl
          | some d => simp only [aDst, PT.get_set]; rw [if_neg ((hf d hyd).1 t ht)]
        have hdd : ∀ d', p.o.dst = some d' → T'.get d' = (aDst T' y.o.dst AV.undef).get d' := by
          intro d' hd'
          cases hyd : y.o.dst with
          | none => rfl
          | some d => simp only [aDst, PT.get_set]; rw [if_neg ((hf d hyd).2 d' hd')]
        exact (I'.pend p hpD hsp).congr hrd hdd (fun w _ _ hop _ => by rw [← aOp_congr (reads_agree hrd)]; exact hop) (fun blk mk id d _ _ _ _ _ hg hlt hRn => ⟨hg, hlt, hRn⟩)
      · rename_i hw
        rw [hya] at hrun'
        simp only at hrun'
        rw [wanted_there hp I' hyp hs hm hw]
        simp only [if_true]
        left
        split at hrun'
        · rename_i v h2 hst
          split at hrun'
          · rename_i hag
            have hst' : aStep E call (PT.filter (fun t => !pendDst s D' t) T') y.o h' = some (v, h2) := by
              unfold aStep at hst ⊢
              rw [← aOp_congr (reads_agree hfs)]; exact hst
            refine step_ok hE hC I'.rel (tr_filter I') hst' fun R' W' v' hvr hw' hext => ?_
            exact ih (y :: D') ρ2 _ h2 R' W' _ (do_act hp I' hm hedge hvr hw' hext hdN (again_pend hp I' hm hag (hext 0 (Nat.zero_le _)).n (hext h'.n (Nat.le_refl _)).fresh)) hrun'
          · cases hrun'
        · cases hrun'
      · cases hrun'

theorem aDraw_ok (hE : EnvOk P E) (hC : CallOk P E call) {T T' : PT AV} {h h' : AH} {R : RM} {W : World} {a : Act} {Q : Exit → Act → World → Prop} {id : Nat} (hr : aDraw E call ops T h = some (T', h'))
    (hds : dstOk N ops.toList = true) (hw : WRel E R h W) (hT : TR R T a.tmps) (hN : N ≤ a.tmps.size)
    (hq : ∀ R' W' a', WRel E R' h' W' → TR R' T' a'.tmps → a'.tmps.size = a.tmps.size → a'.defers = a.defers → (∀ n0, n0 ≤ h.n → Ext n0 R h W R' h' W') → Q .normal a' W') :
    (Code.region id ops true).wp P Q a W := by
  unfold aDraw at hr
  split at hr
  · rename_i plan hpl
    have hp := planFor_ok hpl
    refine wp_region_draw fun t => ?_
    rw [hE.mixed]
    have hw1 := hw.drew (W.drawn + 1)
    refine dSim hE hC hp hds (n0 := h.n) (sz := a.tmps.size) (df := a.defers) (R0 := R) (h0 := h) (W0 := { W with drawn := W.drawn + 1 }) (fun R' W' a' h1 h2 h3 h4 h5 => ?_) _ _ (lin_schedule hp t) [] plan T h R _ a ?_ hr
    · refine hq R' W' a' h1 h2 h3 h4 fun n0 hn0 => ?_
      have h6 : Ext n0 R { h := h.h, n := h.n } { W with drawn := W.drawn + 1 } R' h' W' := ⟨h5.le, h5.n, h5.os, h5.tape, h5.output, h5.size, h5.frame, h5.own, fun id hid => h5.fresh id (Nat.lt_of_lt_of_le hid hn0)⟩
      exact (Ext.drew n0 R h W _).trans h6 (Nat.le_refl _)
    · exact ⟨rfl, (fun i hi => by cases hi), (fun p hp => by simp at hp), (fun i o hi => by cases hi), hw1, (fun t v ht => .inr (hT t v ht)), (fun p hp => by simp at hp), (fun p hp => by simp at hp), .refl _ _ _ _, rfl, Nat.le_refl _, hN, rfl⟩
  · cases hr

end
end Go.AE
