import Derived.Test.YtodgdijafcenbaaAE17
namespace Go.AE
section
variable {P : Program} {E : Env} {R : RM} {h h2 : AH} {W : World} {T : PT AV} {a : Act}

/-- what a call comes to -/
def CallOk (P : Program) (E : Env) (call : CallF) : Prop :=
  ∀ f args h v h', call f args h = some (v, h') → ∀ R W args', WRel E R h W → VRs R args args' →
    Calls P f ⟨args'⟩ W fun e W' => ∃ R' v', e = .returned v' ∧ VR R' v v' ∧ WRel E R' h' W' ∧ ∀ n0, n0 ≤ h.n → Ext n0 R h W R' h' W'

theorem step_ok (hE : EnvOk P E) {call : CallF} (hC : CallOk P E call) (hw : WRel E R h W) (hT : TR R T a.tmps) {o : Oper} {v : AV} {h' : AH} (hs : aStep E call T o h = some (v, h'))
    {next : Act → World → Prop} {Q : Exit → Act → World → Prop} (hn : ∀ R' W' v', VR R' v v' → WRel E R' h' W' → (∀ n0, n0 ≤ h.n → Ext n0 R h W R' h' W') → next (a.put o.dst v') W') :
    o.wp P a W next Q := by
  unfold aStep at hs
  split at hs
  · rename_i v0 h0 hop
    simp only [Option.some.injEq, Prod.mk.injEq] at hs
    obtain ⟨rfl, rfl⟩ := hs
    obtain ⟨v', W', R', hrun, hv, hw', hext⟩ := aOp_ok hE hw hT hop
    have := hn R' W' v' hv hw' hext
    rcases hrun with hrun | ⟨hrun, rfl⟩
    · unfold Oper.wp; rw [hrun]; exact this
    · unfold Oper.wp; rw [hrun]; exact this
  · rename_i f args hop
    obtain ⟨args', hrun, hargs⟩ := aOp_ok hE hw hT hop
    unfold Oper.wp
    rw [hrun, Oper.upon_enter]
    refine (hC f args h v h' hs R W args' hw hargs).mono ?_
    rintro e W' ⟨R', v', rfl, hv, hw', hext⟩
    exact hn R' W' v' hv hw' hext
  · cases hs

theorem put_size (a : Act) (d : Option Tmp) (v : Value) : (a.put d v).tmps.size = a.tmps.size := by cases d <;> simp [Act.put]
theorem put_defers (a : Act) (d : Option Tmp) (v : Value) : (a.put d v).defers = a.defers := by cases d <;> rfl

theorem put_tr {R' : RM} (hT : TR R T a.tmps) (hle : RM.le R R') {d : Option Tmp} {v : AV} {v' : Value} (hv : VR R' v v') (hd : ∀ k, d = some k → k < a.tmps.size) : TR R' (aDst T d v) (a.put d v').tmps := by
  cases d with
  | none => exact hT.mono hle
  | some k =>
    intro t x ht
    simp only [aDst, PT.get_set] at ht
    simp only [Act.put, Array.getElem?_setIfInBounds]
    have hk := hd k rfl
    by_cases e : t = k
    · subst e
      rw [if_pos rfl] at ht
      simp only [Option.some.injEq] at ht; subst ht
      exact ⟨v', by simp [hk], hv⟩
    · rw [if_neg e] at ht
      obtain ⟨x', hx', hxr⟩ := hT t x ht
      exact ⟨x', by rw [if_neg fun q => e q.symm]; exact hx', hxr.mono hle⟩

theorem dstOk_spec {n : Nat} : ∀ {l : List Oper}, dstOk n l = true → ∀ o ∈ l, ∀ d, o.dst = some d → d < n
  | [], _, o, ho, _, _ => by simp at ho
  | p :: l, h, o, ho, d, hd => by
    simp only [dstOk] at h
    split at h
    · rename_i hp
      rcases List.mem_cons.1 ho with rfl | ho
      · rw [hd] at hp; cases hp
      · exact dstOk_spec h o ho d hd
    · rename_i d' hp
      split at h
      · rename_i hlt
        rcases List.mem_cons.1 ho with rfl | ho
        · rw [hd] at hp; simp only [Option.some.injEq] at hp; subst hp; simpa using hlt
        · exact dstOk_spec h o ho d hd
      · cases h

/-- a guard's answer is the one there; only the guard's slot is asked -/
theorem wanted_ok {ops : Array Oper} {o : Oper} {b : Bool} (hb : aWanted ops.toList T o = some b) (hT : ∀ j w g d v, o.guard = some (j, w) → ops.toList[j]? = some g → g.dst = some d → T.get d = some v → ∃ v', a.tmps[d]? = some v' ∧ VR R v v') :
    Region.wanted o (yielded ops a.tmps) = b := by
  unfold aWanted at hb
  unfold Region.wanted
  cases hg : o.guard with
  | none => rw [hg] at hb; simp only [Option.some.injEq] at hb; subst hb; rfl
  | some p =>
    obtain ⟨j, want⟩ := p
    rw [hg] at hb
    simp only at hb ⊢
    split at hb
    · rename_i g hgj
      rw [nth_eq] at hgj
      split at hb
      · rename_i d hd
        have hy : ∀ v', a.tmps[d]? = some v' → yielded ops a.tmps j = match v' with | .bool b => some b | _ => none := by
          intro v' hv'
          unfold yielded
          have : ops[j]? = some g := by simpa using hgj
          simp only [this, Option.bind_some, hd, hv']
          cases v' <;> rfl
        split at hb
        · rename_i b' hb'
          obtain ⟨v', hv', hvr⟩ := hT j want g d _ hg hgj hd hb'
          rw [hy v' hv', hvr.inv_bool]
          cases b' <;> cases want <;> simp only [Option.some.injEq] at hb <;> subst hb <;> rfl
        · rename_i l hl
          obtain ⟨v', hv', hvr⟩ := hT j want g d _ hg hgj hd hl
          obtain ⟨l', _, he⟩ := hvr.inv_tup
          rw [hy v' hv', he]
          simp only [Option.some.injEq] at hb; subst hb
          cases want <;> rfl
        · cases hb
      · cases hb
    · cases hb

/-- a region in the order of its text -/
theorem aOps_ok (hE : EnvOk P E) {call : CallF} (hC : CallOk P E call) {ops : Array Oper} {N : Nat} {Q : Exit → Act → World → Prop} : ∀ (os : List Oper) (is : List Nat) (T : PT AV) (h : AH) (T' : PT AV) (h' : AH) (R : RM) (W : World) (a : Act),
    aOps E call ops.toList os T h = some (T', h') → is.map (fun i => ops[i]?) = os.map some → dstOk N os = true → WRel E R h W → TR R T a.tmps → N ≤ a.tmps.size →
    (∀ R' W' a', WRel E R' h' W' → TR R' T' a'.tmps → a'.tmps.size = a.tmps.size → a'.defers = a.defers → (∀ n0, n0 ≤ h.n → Ext n0 R h W R' h' W') → Q .normal a' W') → wpOps P ops Q is a W
  | [], is, T, h, T', h', R, W, a, hr, hi, _, hw, hT, _, hq => by
    simp only [aOps, Option.some.injEq, Prod.mk.injEq] at hr
    obtain ⟨rfl, rfl⟩ := hr
    have : is = [] := by cases is with | nil => rfl | cons _ _ => simp at hi
    subst this
    exact hq R W a hw hT rfl rfl fun n0 _ => .refl n0 _ _ _
  | o :: os, is, T, h, T', h', R, W, a, hr, hi, hd, hw, hT, hN, hq => by
    cases is with
    | nil => simp at hi
    | cons i is =>
      simp only [List.map_cons, List.cons.injEq] at hi
      obtain ⟨ho, hi⟩ := hi
      have hdo := dstOk_spec hd o (by simp)
      have hd' : dstOk N os = true := by
        simp only [dstOk] at hd
        split at hd
        · exact hd
        · split at hd
          · exact hd
          · cases hd
      have hdk : ∀ k, o.dst = some k → k < a.tmps.size := fun k hk => Nat.lt_of_lt_of_le (hdo k hk) hN
      simp only [aOps] at hr
      simp only [wpOps, ho]
      split at hr
      · rename_i hb
        rw [wanted_ok hb fun j w g d v _ _ _ hv => hT d v hv]
        simp only [if_true]
        split at hr
        · rename_i v h1 hs
          left
          refine step_ok hE hC hw hT hs fun R' W' v' hv hw' hext => ?_
          refine aOps_ok hE hC os is _ h1 T' h' R' W' _ hr hi hd' hw' (put_tr hT (hext 0 (Nat.zero_le _)).le hv hdk) (by rw [put_size]; exact hN) fun R2 W2 a2 hw2 hT2 hs2 hd2 hext2 => ?_
          exact hq R2 W2 a2 hw2 hT2 (hs2.trans (put_size _ _ _)) (hd2.trans (put_defers _ _ _)) fun n0 hn0 => (hext n0 hn0).trans (hext2 n0 (Nat.le_trans hn0 (hext 0 (Nat.zero_le _)).n)) (Nat.le_refl _)
        · cases hr
      · rename_i hb
        rw [wanted_ok hb fun j w g d v _ _ _ hv => hT d v hv]
        simp only [Bool.false_eq_true, if_false]
        refine aOps_ok hE hC os is _ h T' h' R W _ hr hi hd' hw (put_tr hT (RM.le_refl R) (VR.undef R) hdk) (by rw [put_size]; exact hN) fun R2 W2 a2 hw2 hT2 hs2 hd2 hext2 => ?_
        exact hq R2 W2 a2 hw2 hT2 (hs2.trans (put_size _ _ _)) (hd2.trans (put_defers _ _ _)) hext2
      · cases hr

end
end Go.AE
