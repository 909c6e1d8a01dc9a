import Derived.Test.YtodgdijafcenbaaAE24
import Derived.LoopN
namespace Go.AE
section
variable {P : Program} {E : Env} {call : CallF}

/-! ### code -/
def AX.toExit : AX → Exit
  | .normal => .normal
  | .exit id => .exit id
  | .ret => .ret

/-- what a piece of code comes to -/
def CodeSat (P : Program) (E : Env) (N : Nat) (c : Code) (T : PT AV) (h : AH) (x : AX) (T' : PT AV) (h' : AH) : Prop :=
  ∀ (R : RM) (W : World) (a : Act) (Q : Exit → Act → World → Prop), WRel E R h W → TR R T a.tmps → N ≤ a.tmps.size →
    (∀ R' W' a', WRel E R' h' W' → TR R' T' a'.tmps → a'.tmps.size = a.tmps.size → a'.defers = a.defers → (∀ n0, n0 ≤ h.n → Ext n0 R h W R' h' W') → Q x.toExit a' W') → c.wp P Q a W

theorem CodeSat.again {N : Nat} {c d : Code} {T1 T2 T3 : PT AV} {h1 h2 h3 : AH} {x y : AX} (hc : CodeSat P E N c T1 h1 x T2 h2) (hd : CodeSat P E N d T2 h2 y T3 h3)
    {R : RM} {W : World} {a : Act} {Q : Exit → Act → World → Prop} {Q1 : Exit → Act → World → Prop} (hw : WRel E R h1 W) (hT : TR R T1 a.tmps) (hN : N ≤ a.tmps.size)
    (hq : ∀ R' W' a', WRel E R' h3 W' → TR R' T3 a'.tmps → a'.tmps.size = a.tmps.size → a'.defers = a.defers → (∀ n0, n0 ≤ h1.n → Ext n0 R h1 W R' h3 W') → Q y.toExit a' W')
    (hn : ∀ a W, d.wp P Q a W → Q1 x.toExit a W) : c.wp P Q1 a W := by
  refine hc R W a Q1 hw hT hN fun R1 W1 a1 g1 g2 g3 g4 g5 => hn _ _ ?_
  refine hd R1 W1 a1 Q g1 g2 (by omega) fun R2 W2 a2 k1 k2 k3 k4 k5 => ?_
  refine hq R2 W2 a2 k1 k2 (by omega) (by rw [k4, g4]) fun n0 hn0 => ?_
  have := (g5 n0 hn0).n
  exact (g5 n0 hn0).trans (k5 n0 (by omega)) (Nat.le_refl _)

theorem aLoop_ok {N : Nat} {c : Code} {f : CodeF} (hf : ∀ T h x T' h', f T h = some (x, T', h') → CodeSat P E N c T h x T' h') :
    ∀ (n : Nat) (T : PT AV) (h : AH) (x : AX) (T' : PT AV) (h' : AH), aLoop f n T h = some (x, T', h') →
      ∀ (R : RM) (W : World) (a : Act) (Q : Exit → Act → World → Prop), WRel E R h W → TR R T a.tmps → N ≤ a.tmps.size →
      (∀ R' W' a', WRel E R' h' W' → TR R' T' a'.tmps → a'.tmps.size = a.tmps.size → a'.defers = a.defers → (∀ n0, n0 ≤ h.n → Ext n0 R h W R' h' W') → Q x.toExit a' W') → Code.rounds P c Q n a W
  | 0, T, h, x, T', h', hr, _, _, _, _, _, _, _, _ => by simp [aLoop] at hr
  | n + 1, T, h, x, T', h', hr, R, W, a, Q, hw, hT, hN, hq => by
    rw [rounds_succ]
    unfold aLoop at hr
    split at hr
    · rename_i T1 h1 hr1
      refine hf _ _ _ _ _ hr1 R W a _ hw hT hN fun R1 W1 a1 g1 g2 g3 g4 g5 => ?_
      refine aLoop_ok hf n T1 h1 x T' h' hr R1 W1 a1 Q g1 g2 (by omega) fun R2 W2 a2 k1 k2 k3 k4 k5 => ?_
      refine hq R2 W2 a2 k1 k2 (by omega) (by rw [k4, g4]) fun n0 hn0 => ?_
      have := (g5 n0 hn0).n
      exact (g5 n0 hn0).trans (k5 n0 (by omega)) (Nat.le_refl _)
    · rename_i hne
      refine hf _ _ _ _ _ hr R W a _ hw hT hN fun R1 W1 a1 g1 g2 g3 g4 g5 => ?_
      have := hq R1 W1 a1 g1 g2 g3 g4 g5
      cases x with
      | normal => exact absurd hr (hne _ _)
      | exit id => exact this
      | ret => exact this

theorem aCode_ok (hE : EnvOk P E) (hC : CallOk P E call) {L N : Nat} : ∀ (c : Code), codeOk N c = true → ∀ (T : PT AV) (h : AH) (x : AX) (T' : PT AV) (h' : AH), aCode E call L c T h = some (x, T', h') → CodeSat P E N c T h x T' h' := by
  intro c
  induction c with
  | skip =>
    intro _ T h x T' h' hr R W a Q hw hT hN hq
    simp only [aCode, Option.some.injEq, Prod.mk.injEq] at hr
    obtain ⟨rfl, rfl, rfl⟩ := hr
    exact wp_skip (hq R W a hw hT rfl rfl fun n0 _ => .refl n0 _ _ _)
  | label l =>
    intro _ T h x T' h' hr R W a Q hw hT hN hq
    simp only [aCode, Option.some.injEq, Prod.mk.injEq] at hr
    obtain ⟨rfl, rfl, rfl⟩ := hr
    exact wp_label (hq R W a hw hT rfl rfl fun n0 _ => .refl n0 _ _ _)
  | exit id =>
    intro _ T h x T' h' hr R W a Q hw hT hN hq
    simp only [aCode, Option.some.injEq, Prod.mk.injEq] at hr
    obtain ⟨rfl, rfl, rfl⟩ := hr
    exact wp_exit (hq R W a hw hT rfl rfl fun n0 _ => .refl n0 _ _ _)
  | ret =>
    intro _ T h x T' h' hr R W a Q hw hT hN hq
    simp only [aCode, Option.some.injEq, Prod.mk.injEq] at hr
    obtain ⟨rfl, rfl, rfl⟩ := hr
    exact wp_ret (hq R W a hw hT rfl rfl fun n0 _ => .refl n0 _ _ _)
  | region id ops dr =>
    intro hok T h x T' h' hr R W a Q hw hT hN hq
    simp only [codeOk] at hok
    cases dr with
    | true =>
      simp only [aCode] at hr
      unfold cRegion at hr
      split at hr
      · rename_i T1 h1 hr1
        simp only [Option.some.injEq, Prod.mk.injEq] at hr
        obtain ⟨rfl, rfl, rfl⟩ := hr
        exact aDraw_ok hE hC hr1 hok hw hT hN hq
      · cases hr
    | false =>
      simp only [aCode] at hr
      unfold cRegion at hr
      split at hr
      · rename_i T1 h1 hr1
        simp only [Option.some.injEq, Prod.mk.injEq] at hr
        obtain ⟨rfl, rfl, rfl⟩ := hr
        refine wp_region (aOps_ok hE hC _ _ T h _ _ R W a hr1 ?_ hok hw hT hN hq)
        apply List.ext_getElem?
        intro i
        simp only [List.getElem?_map]
        by_cases hi : i < ops.size
        · simp [hi]
        · simp [hi]
      · cases hr
  | seq c d ih1 ih2 =>
    intro hok T h x T' h' hr
    simp only [codeOk, Bool.and_eq_true] at hok
    simp only [aCode] at hr
    unfold cSeq at hr
    split at hr
    · rename_i T1 h1 hr1
      intro R W a Q hw hT hN hq
      refine wp_seq ((ih1 hok.1 _ _ _ _ _ hr1).again (ih2 hok.2 _ _ _ _ _ hr) hw hT hN hq fun a W hh => hh)
    · rename_i i T1 h1 hr1
      simp only [Option.some.injEq, Prod.mk.injEq] at hr
      obtain ⟨rfl, rfl, rfl⟩ := hr
      intro R W a Q hw hT hN hq
      exact wp_seq (ih1 hok.1 _ _ _ _ _ hr1 R W a _ hw hT hN hq)
    · rename_i T1 h1 hr1
      simp only [Option.some.injEq, Prod.mk.injEq] at hr
      obtain ⟨rfl, rfl, rfl⟩ := hr
      intro R W a Q hw hT hN hq
      exact wp_seq (ih1 hok.1 _ _ _ _ _ hr1 R W a _ hw hT hN hq)
    · cases hr
  | cond o c d ih1 ih2 =>
    intro hok T h x T' h' hr
    simp only [codeOk, Bool.and_eq_true] at hok
    simp only [aCode] at hr
    unfold cCond at hr
    intro R W a Q hw hT hN hq
    split at hr
    · rename_i hev
      have he := eval_rel hT hev
      generalize hg : a.eval o = v at he
      cases he
      exact wp_cond_true hg (ih1 hok.1 _ _ _ _ _ hr R W a _ hw hT hN hq)
    · rename_i hev
      have he := eval_rel hT hev
      generalize hg : a.eval o = v at he
      cases he
      exact wp_cond_false hg (ih2 hok.2 _ _ _ _ _ hr R W a _ hw hT hN hq)
    · cases hr
  | block id c ih =>
    intro hok T h x T' h' hr
    simp only [codeOk] at hok
    simp only [aCode] at hr
    unfold cBlock at hr
    intro R W a Q hw hT hN hq
    split at hr
    · rename_i T1 h1 hr1
      simp only [Option.some.injEq, Prod.mk.injEq] at hr
      obtain ⟨rfl, rfl, rfl⟩ := hr
      exact wp_block (ih hok _ _ _ _ _ hr1 R W a _ hw hT hN hq)
    · rename_i i T1 h1 hr1
      split at hr
      · rename_i hi
        simp only [Option.some.injEq, Prod.mk.injEq] at hr
        obtain ⟨rfl, rfl, rfl⟩ := hr
        have : i = id := by simpa using hi
        subst this
        refine wp_block (ih hok _ _ _ _ _ hr1 R W a _ hw hT hN fun R' W' a' k1 k2 k3 k4 k5 => ?_)
        simp only [AX.toExit, Exit.inBlock, if_true]
        exact hq R' W' a' k1 k2 k3 k4 k5
      · rename_i hi
        simp only [Option.some.injEq, Prod.mk.injEq] at hr
        obtain ⟨rfl, rfl, rfl⟩ := hr
        have : ¬ i = id := fun e => by subst e; simp at hi
        refine wp_block (ih hok _ _ _ _ _ hr1 R W a _ hw hT hN fun R' W' a' k1 k2 k3 k4 k5 => ?_)
        simp only [AX.toExit, Exit.inBlock, this, if_false]
        exact hq R' W' a' k1 k2 k3 k4 k5
    · rename_i T1 h1 hr1
      simp only [Option.some.injEq, Prod.mk.injEq] at hr
      obtain ⟨rfl, rfl, rfl⟩ := hr
      exact wp_block (ih hok _ _ _ _ _ hr1 R W a _ hw hT hN hq)
    · cases hr
  | loop c ih =>
    intro hok T h x T' h' hr R W a Q hw hT hN hq
    simp only [codeOk] at hok
    simp only [aCode] at hr
    exact wp_loop_rounds L (aLoop_ok (fun T h x T' h' => ih hok T h x T' h') L T h x T' h' hr R W a Q hw hT hN hq)
  | _ => intro _ T h x T' h' hr; simp [aCode] at hr

/-! ### results and calls -/
set_option linter.unusedVariables false in
theorem aResults_ok (hE : EnvOk P E) {R : RM} {T : PT AV} {h : AH} {W : World} {ts : Array Value} (hw : WRel E R h W) (hT : TR R T ts) : ∀ (rs : List ResultVar) (l : List AV), aResults E T h rs = some l →
    ∃ l', (rs.mapM (fun
      | .tmp t => pure (ts.getD t undef)
      | .cell a t => do loadVar t (← asAddr (ts.getD a undef)) : ResultVar → Sem Value)).run P W = .ok l' W ∧ VRs R l l' := by
  intro rs
  induction rs with
  | nil =>
    intro l hr
    simp only [aResults, Option.some.injEq] at hr
    subst hr
    exact ⟨[], rfl, .nil⟩
  | cons r rs ih =>
    intro l hr
    simp only [aResults] at hr
    split at hr
    · rename_i v hv
      split at hr
      · rename_i l1 hl1
        simp only [Option.some.injEq] at hr
        subst hr
        obtain ⟨l2, hl2, hr2⟩ := ih l1 hl1
        have : ∃ v', ((match r with
          | .tmp t => pure (ts.getD t undef)
          | .cell a t => do loadVar t (← asAddr (ts.getD a undef)) : Sem Value)).run P W = .ok v' W ∧ VR R v v' := by
          cases r with
          | tmp t =>
            obtain ⟨v', hv', hvr⟩ := hT t v hv
            exact ⟨v', by simp [hv'], hvr⟩
          | cell c t =>
            simp only at hv
            split at hv
            · rename_i b o hb
              obtain ⟨v', hv', hvr⟩ := hT c _ hb
              generalize hbo : AV.ptr b o = x at hvr
              cases hvr <;> simp only [reduceCtorEq, AV.ptr.injEq] at hbo
              rename_i b' o' rg hrg
              obtain ⟨rfl, rfl⟩ := hbo
              obtain ⟨w', hw', hwr⟩ := loadVar_rel hE hw hrg hv
              refine ⟨w', ?_, hwr⟩
              simp [hv', asAddr, hw']
            · cases hv
        obtain ⟨v', hv', hvr⟩ := this
        refine ⟨v' :: l2, ?_, .cons _ _ _ _ hvr hr2⟩
        rw [List.mapM_cons]
        simp only [Sem.run_bind, hv', Result.andThen_ok, hl2]
        rfl
      · cases hr
    · cases hr

/-- every call that the evaluator makes is one of the program's -/
theorem aCall_ok (hE : EnvOk P E) {L : Nat} : ∀ n, CallOk P E (aCall E L n)
  | 0 => fun f args h v h' hc => by simp [aCall] at hc
  | n + 1 => fun f args h v h' hc R W args' hw hargs => by
    have ih := aCall_ok hE (L := L) n
    unfold aCall at hc
    split at hc
    · cases hc
    rename_i fi hfi
    obtain ⟨fn, hfn, hbody, hnt, hres, hok⟩ := hE.fn f fi hfi
    split at hc
    · rename_i x T h1 hrun
      split at hc
      · rename_i l hl
        simp only [Option.some.injEq, Prod.mk.injEq] at hc
        obtain ⟨rfl, rfl⟩ := hc
        refine calls_of_wp hfn hbody ?_
        have hlen := hargs.length
        refine aCode_ok hE ih fi.body hok _ _ _ _ _ hrun R W _ _ hw ?_ ?_ ?_
        · intro t v ht
          rw [get_setN] at ht
          split at ht
          · obtain ⟨v', hv', hvr⟩ := hargs.get ht
            refine ⟨v', ?_, hvr⟩
            simp only [Nat.sub_zero] at hv'
            have := (List.getElem?_eq_some_iff.1 hv').1
            rw [Array.getElem?_append_left (by simpa using this)]
            simpa using hv'
          · simp [PT.get] at ht
        · simp only [Array.size_append, Array.size_replicate, List.size_toArray]; omega
        · intro R' W' a' hw' hT' hsz hdf hext
          have key : ∀ (hl' : aResults E T h1 fi.results = some l), ∃ v, (results fn a'.tmps).run P W' = .ok v W' ∧ (∃ R' v', Ending.returned v = .returned v' ∧ VR R' (aRes l) v' ∧ WRel E R' h1 W' ∧ ∀ n0, n0 ≤ h.n → Ext n0 R h W R' h1 W') := by
            intro hl'
            clear hl
            obtain ⟨l', hl1, hlr⟩ := aResults_ok hE hw' hT' fi.results l hl'
            have hrun : (results fn a'.tmps).run P W' = .ok (if h : l'.toArray.size = 1 then l'.toArray[0] else .tuple l'.toArray) W' := by
              unfold results
              rw [hres]
              rw [Array.mapM_eq_mapM_toList]
              simp only [Sem.run_bind, Sem.run_map]
              erw [hl1]
              rfl
            refine ⟨_, hrun, R', _, rfl, ?_, hw', hext⟩
            cases hlr with
            | nil => exact .tup _ _ .nil
            | cons v v' l l' h hl =>
              cases hl with
              | nil => simpa [aRes] using h
              | cons w w' l l' h' hl => 
                have : ¬ ((v' :: w' :: l').toArray.size = 1) := by simp
                rw [dif_neg this]
                exact .tup _ _ (.cons _ _ _ _ h (.cons _ _ _ _ h' hl))
          cases x with
          | normal => exact ⟨hdf, key hl⟩
          | ret => exact ⟨hdf, key hl⟩
          | exit id => cases hl
      · cases hc
    · cases hc

end
end Go.AE
