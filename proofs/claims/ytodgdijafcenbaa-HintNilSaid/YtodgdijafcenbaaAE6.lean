import Derived.Test.YtodgdijafcenbaaAE5
import Derived.Laws.StructEq
namespace Go.AE
section
variable {P : Program} {E : Env} {R : RM} {W : World}

theorem takeN_spec {α : Type} : ∀ (n : Nat) (l r : List α), takeN n l = some r → r = l.take n ∧ n ≤ l.length
  | 0, l, r, h => by simp [takeN] at h; subst h; simp
  | n + 1, [], r, h => by simp [takeN] at h
  | n + 1, a :: l, r, h => by
    simp only [takeN] at h
    cases h1 : takeN n l with
    | none => rw [h1] at h; simp at h
    | some q =>
      rw [h1] at h; simp only [Option.some.injEq] at h; subst h
      obtain ⟨e, hl⟩ := takeN_spec n l q h1
      subst e
      exact ⟨by simp, by simp; omega⟩

theorem grab_spec {α : Type} (l : List α) : ∀ (o n : Nat) (r : List α), grab l o n = some r → r = (l.drop o).take n ∧ (o + n ≤ l.length) := by
  induction l with
  | nil =>
    intro o n r h
    cases o with
    | zero => simp only [grab] at h; obtain ⟨e, hl⟩ := takeN_spec _ _ _ h; exact ⟨by simpa using e, by simpa using hl⟩
    | succ o => simp [grab] at h
  | cons a l ih =>
    intro o n r h
    cases o with
    | zero => simp only [grab] at h; obtain ⟨e, hl⟩ := takeN_spec _ _ _ h; exact ⟨by simpa using e, by simpa using hl⟩
    | succ o =>
      simp only [grab] at h
      obtain ⟨e, hl⟩ := ih o n r h
      exact ⟨by simpa using e, by simp; omega⟩

theorem VRs.drop {l : List AV} {l' : List Value} (h : VRs R l l') (n : Nat) : VRs R (l.drop n) (l'.drop n) := by
  induction n generalizing l l' with
  | zero => simpa using h
  | succ n ih => cases h with
    | nil => exact .nil
    | cons _ _ _ _ _ hl => simpa using ih hl
theorem VRs.take {l : List AV} {l' : List Value} (h : VRs R l l') (n : Nat) : VRs R (l.take n) (l'.take n) := by
  induction n generalizing l l' with
  | zero => simpa using VRs.nil
  | succ n ih => cases h with
    | nil => exact .nil
    | cons _ _ _ _ hv hl => simpa using VRs.cons _ _ _ _ hv (ih hl)

theorem aPart_ok (hE : EnvOk P E) {t : TypeId} {cs : List AV} {cs' : List Value} {off : Nat} {v : AV} (hc : VRs R cs cs') (h : aPart E t cs off = some v) :
    ∃ v', (part t ⟨cs'⟩ off).run P W = .ok v' W ∧ VR R v v' := by
  unfold aPart at h
  split at h
  · rename_i i hi
    have hti := hE.ti t i hi
    unfold part
    simp only [Sem.run_bind, hti.runAgg, Result.andThen_ok]
    split at h
    · rename_i hagg
      rw [if_pos hagg]
      split at h
      · rename_i l hg
        simp only [Option.some.injEq] at h; subst h
        obtain ⟨e, hl⟩ := grab_spec _ _ _ _ hg
        subst e
        refine ⟨.agg ⟨(cs'.drop off).take i.size⟩, ?_, .agg _ _ ((hc.drop off).take i.size)⟩
        simp only [Sem.run_bind, hti.runSize, Result.andThen_ok, Sem.run_pure]
        rw [show (⟨cs'⟩ : Array Value).extract off (off + i.size) = ⟨(cs'.drop off).take i.size⟩ from by
          apply Array.toList_inj.1
          simp]
      · cases h
    · rename_i hagg
      rw [if_neg (by simp [hagg])]
      rw [nth_eq] at h
      obtain ⟨v', hv', hv⟩ := hc.get h
      exact ⟨v', by simp [hv'], hv⟩
  · cases h

theorem aEq_ok (hE : EnvOk P E) : ∀ (d : Nat) (t : TypeId) (x y : AV) (b : Bool) (x' y' : Value), aEq E d t x y = some b → VR R x x' → VR R y y' →
    (Op.equalIn d t x' y').run P W = .ok b W := by
  intro d
  induction d with
  | zero => intro t x y b x' y' h; simp [aEq] at h
  | succ d ih =>
    intro t x y b x' y' h hx hy
    simp only [aEq] at h
    split at h
    · cases h
    · rename_i i hi
      have hti := hE.ti t i hi
      split at h
      · -- bool
        rename_i p q hd
        have := hx.inv_bool; subst this
        have := hy.inv_bool; subst this
        simp only [Op.equalIn, Sem.run_bind, hti.runU, Result.andThen_ok, hd, Sem.run_pure]
        cases p <;> cases q <;> simp at h <;> subst h <;> rfl
      · -- int
        rename_i k0 k p k' q hd
        have := hx.inv_int; subst this
        have := hy.inv_int; subst this
        simp only [Op.equalIn, Sem.run_bind, hti.runU, Result.andThen_ok, hd]
        split at h
        · rename_i hk
          have := kEq_eq hk; subst this
          simp only [if_true, Sem.run_pure]
          simp only [Option.some.injEq] at h; subst h
          rw [iEq_eq]; rfl
        · cases h
      · -- string
        rename_i p q hd
        obtain ⟨s, hs, he⟩ := hx.inv_str; subst he
        obtain ⟨u, hu, he⟩ := hy.inv_str; subst he
        simp only [Op.equalIn, Sem.run_bind, hti.runU, Result.andThen_ok, hd, Sem.run_pure]
        simp only [Option.some.injEq] at h; subst h
        rw [beq_toListBytes, Lib.toList_data, Lib.toList_data, hs, hu, u8eq_eq]
      · rename_i hd; cases hx; cases hy
        simp only [Option.some.injEq] at h; subst h
        simp only [Op.equalIn, Sem.run_bind, hti.runU, Result.andThen_ok, hd, Sem.run_pure]; rfl
      · rename_i hd; cases hx; cases hy
        simp only [Option.some.injEq] at h; subst h
        simp only [Op.equalIn, Sem.run_bind, hti.runU, Result.andThen_ok, hd, Sem.run_pure]; rfl
      · rename_i hd; cases hx; cases hy
        simp only [Option.some.injEq] at h; subst h
        simp only [Op.equalIn, Sem.run_bind, hti.runU, Result.andThen_ok, hd, Sem.run_pure]
      · -- two pointers
        rename_i e p o p' o' hd
        split at h
        · rename_i j hj
          split at h
          · cases h
          · rename_i m hm
            split at h
            · rename_i hpp
              simp only [Option.some.injEq] at h; subst h
              have hpp' : p = p' := Nat.eq_of_beq_eq_true hpp
              subst hpp'
              obtain ⟨r, hr, he⟩ := hx.inv_ptr; subst he
              obtain ⟨r', hr', he⟩ := hy.inv_ptr; subst he
              rw [hr] at hr'; simp only [Option.some.injEq] at hr'; subst hr'
              simp only [Op.equalIn, Sem.run_bind, hti.runU, Result.andThen_ok, hd, (hE.ti _ _ hj).runSize, hm]
              rw [if_pos (by simp)]
              simp only [sameAddr, beq_self_eq_true, if_true, Sem.run_pure]
              rw [beq_dec]
              congr 1
              rw [Bool.eq_iff_iff]; simp
            · cases h
        · cases h
      · rename_i hd; cases hx; cases hy
        simp only [Option.some.injEq] at h; subst h
        simp only [Op.equalIn, Sem.run_bind, hti.runU, Result.andThen_ok, hd, Sem.run_pure]; rfl
      · rename_i hd; cases hx; cases hy <;> (simp only [Option.some.injEq] at h; subst h; simp only [Op.equalIn, Sem.run_bind, hti.runU, Result.andThen_ok, hd, Sem.run_pure]; rfl)
      · rename_i hd; cases hx <;> cases hy <;> (simp only [Option.some.injEq] at h; subst h; simp only [Op.equalIn, Sem.run_bind, hti.runU, Result.andThen_ok, hd, Sem.run_pure])
      · rename_i hd; cases hx; cases hy
        simp only [Option.some.injEq] at h; subst h
        simp only [Op.equalIn, Sem.run_bind, hti.runU, Result.andThen_ok, hd, Sem.run_pure]; rfl
      · rename_i hd; cases hx; cases hy
        simp only [Option.some.injEq] at h; subst h
        simp only [Op.equalIn, Sem.run_bind, hti.runU, Result.andThen_ok, hd, Sem.run_pure]; rfl
      · rename_i hd; cases hx; cases hy
        simp only [Option.some.injEq] at h; subst h
        simp only [Op.equalIn, Sem.run_bind, hti.runU, Result.andThen_ok, hd, Sem.run_pure]
      · rename_i hd; cases hx; cases hy
        simp only [Option.some.injEq] at h; subst h
        simp only [Op.equalIn, Sem.run_bind, hti.runU, Result.andThen_ok, hd, Sem.run_pure]
      · rename_i hd; cases hx; cases hy
        simp only [Option.some.injEq] at h; subst h
        simp only [Op.equalIn, Sem.run_bind, hti.runU, Result.andThen_ok, hd, Sem.run_pure]
      · rename_i hd; cases hx; cases hy
        simp only [Option.some.injEq] at h; subst h
        simp only [Op.equalIn, Sem.run_bind, hti.runU, Result.andThen_ok, hd, Sem.run_pure]
      · -- struct
        rename_i fs xs ys hd
        split at h
        · cases h
        · rename_i hst
          obtain ⟨xs', hxs, he⟩ := hx.inv_agg; subst he
          obtain ⟨ys', hys, he⟩ := hy.inv_agg; subst he
          have hf : P.fieldsOf t = fs := by simp [Program.fieldsOf, hti.u, hd]
          rw [run_equalIn_struct W d t _ _ (by rw [hti.u, hd, hf]) (hti.stood hst), hf]
          generalize fs.toList = l at h
          clear hd hf
          induction l with
          | nil => simp only [eqFields, Option.some.injEq] at h; subst h; rfl
          | cons f l ihl =>
            simp only [eqFields] at h
            split at h
            · cases h
            · rename_i hne
              split at h
              · rename_i p q hp hq
                obtain ⟨p', hp', hpv⟩ := aPart_ok (W := W) hE hxs hp
                obtain ⟨q', hq', hqv⟩ := aPart_ok (W := W) hE hys hq
                simp only [Op.eqFields]
                rw [if_pos hne]
                simp only [Sem.run_bind, hp', hq', Result.andThen_ok]
                split at h
                · rename_i hb
                  rw [ih _ _ _ _ _ _ hb hpv hqv]
                  simp only [Result.andThen_ok]
                  exact ihl h
                · rename_i hb
                  rw [ih _ _ _ _ _ _ hb hpv hqv]
                  simp only [Option.some.injEq] at h; subst h
                  rfl
                · cases h
              · cases h
      · cases h

theorem eqGuard_plain {op : BinOp} {t : TypeId} {x y : Operand} {x' y' : Value} (h1 : ∀ l, x' ≠ .agg l) (h2 : x' ≠ .nilIface) : (eqGuard op t x y x' y').run P W = .ok () W := by
  cases op <;> cases x' <;> first | rfl | (exact absurd rfl (h1 _)) | (exact absurd rfl h2)

theorem eqGuard_agg' {op : BinOp} {t : TypeId} {x y : Operand} {l : Array Value} {y' : Value} (h1 : ∀ l, y' ≠ .agg l) : (eqGuard op t x y (.agg l) y').run P W = .ok () W := by
  cases op <;> cases y' <;> first | rfl | (exact absurd rfl (h1 _))

def bothPlain : Value → Value → Bool
  | .int _ _, .int _ _ => true
  | .float _ _, .float _ _ => true
  | .complex _ _ _, .complex _ _ _ => true
  | .string _, .string _ => true
  | _, _ => false

theorem binOp_eql {t : TypeId} {x' y' : Value} (h : bothPlain x' y' = false) : binOp .eql t x' y' = (do pure (.bool (← Op.equal t x' y'))) := by
  cases x' <;> cases y' <;> first | rfl | (simp [bothPlain] at h)
theorem binOp_neq {t : TypeId} {x' y' : Value} (h : bothPlain x' y' = false) : binOp .neq t x' y' = (do pure (.bool (!(← Op.equal t x' y')))) := by
  cases x' <;> cases y' <;> first | rfl | (simp [bothPlain] at h)

def negB (neg b : Bool) : Bool := match neg, b with
  | true, true => false
  | true, false => true
  | false, b => b

theorem aEq_nili (d : Nat) (t : TypeId) (y : AV) : aEq E d t .nili y = none := by
  cases d with
  | zero => rfl
  | succ d =>
    simp only [aEq]
    split
    · rfl
    · split <;> first | rfl | (rename_i hh; cases hh)

theorem aBin_eq_ok (hE : EnvOk P E) {neg : Bool} {t : TypeId} {xo yo : Operand} {x y : AV} {x' y' : Value} {b : Bool}
    (hx : VR R x x') (hy : VR R y y') (hq : aEq E 10000 t x y = some b) (hag : ∀ l, x = .agg l → ∃ i, E.ti t = some i ∧ i.eqg = false) (hp : bothPlain x' y' = false) :
    ∃ v', (do eqGuard (if neg then .neq else .eql) t xo yo x' y'; binOp (if neg then .neq else .eql) t x' y' : Sem Value).run P W = .ok v' W ∧ VR R (.bool (negB neg b)) v' := by
  have hg : (eqGuard (if neg then .neq else .eql) t xo yo x' y').run P W = .ok () W := by
    cases hx with
    | agg l l' hl =>
      obtain ⟨i, hi, he⟩ := hag l rfl
      have hm := (hE.ti t i hi).eqg he
      cases hy with
      | agg m m' hm' => exact run_eqGuard_agg W _ t xo yo _ _ hm
      | _ => exact eqGuard_agg' (by intro l e; cases e)
    | nili =>
      rw [aEq_nili] at hq
      cases hq
    | _ => exact eqGuard_plain (by intro l e; cases e) (by intro e; cases e)
  refine ⟨.bool (negB neg b), ?_, .bool _⟩
  have := aEq_ok (W := W) hE _ _ _ _ _ _ _ hq hx hy
  have hq' : (Op.equal t x' y').run P W = .ok b W := this
  cases neg with
  | false =>
    simp only [Bool.false_eq_true, if_false] at hg ⊢
    simp only [Sem.run_bind, hg, Result.andThen_ok, binOp_eql hp, hq', Sem.run_pure]; rfl
  | true =>
    simp only [if_true] at hg ⊢
    simp only [Sem.run_bind, hg, Result.andThen_ok, binOp_neq hp, hq', Sem.run_pure]; cases b <;> rfl

theorem aBin_ok (hE : EnvOk P E) {op : BinOp} {t : TypeId} {xo yo : Operand} {x y v : AV} {x' y' : Value} (hx : VR R x x') (hy : VR R y y') (h : aBin E op t x y = some v) :
    ∃ v', (do eqGuard op t xo yo x' y'; binOp op t x' y' : Sem Value).run P W = .ok v' W ∧ VR R v v' := by
  unfold aBin at h
  simp only at h
  split at h
  · rename_i k a k' b
    have := hx.inv_int; subst this
    have := hy.inv_int; subst this
    obtain ⟨v', hr, hv⟩ := aShl_ok (P := P) (R := R) (W := W) h t (k' := k')
    exact ⟨v', by simp only [Sem.run_bind, eqGuard_plain (P := P) (W := W) (op := .shl) (t := t) (x := xo) (y := yo) (x' := .int k a) (y' := .int k' b) (by intro l e; cases e) (by intro e; cases e), Result.andThen_ok, hr], hv⟩
  · rename_i k a k' b
    have := hx.inv_int; subst this
    have := hy.inv_int; subst this
    obtain ⟨v', hr, hv⟩ := aShr_ok (P := P) (R := R) (W := W) h t (k' := k')
    exact ⟨v', by simp only [Sem.run_bind, eqGuard_plain (P := P) (W := W) (op := .shr) (t := t) (x := xo) (y := yo) (x' := .int k a) (y' := .int k' b) (by intro l e; cases e) (by intro e; cases e), Result.andThen_ok, hr], hv⟩
  · rename_i k a k' b hn1 hn2
    have := hx.inv_int; subst this
    have := hy.inv_int; subst this
    split at h
    · rename_i hk
      have := kEq_eq hk; subst this
      obtain ⟨v', hr, hv⟩ := aInt2_ok (P := P) (R := R) (W := W) h t ⟨hn1, hn2⟩
      exact ⟨v', by simp only [Sem.run_bind, eqGuard_plain (P := P) (W := W) (op := _) (t := t) (x := xo) (y := yo) (x' := .int k a) (y' := .int k b) (by intro l e; cases e) (by intro e; cases e), Result.andThen_ok, hr], hv⟩
    · cases h
  · rename_i a b
    obtain ⟨s, hs, he⟩ := hx.inv_str; subst he
    obtain ⟨u, hu, he⟩ := hy.inv_str; subst he
    obtain ⟨v', hr, hv⟩ := aStr2_ok (P := P) (R := R) (W := W) hs hu h t
    exact ⟨v', by simp only [Sem.run_bind, eqGuard_plain (P := P) (W := W) (op := _) (t := t) (x := xo) (y := yo) (x' := .string s) (y' := .string u) (by intro l e; cases e) (by intro e; cases e), Result.andThen_ok, hr], hv⟩
  · rename_i h1 h2
    have hp : bothPlain x' y' = false := by
      cases hx <;> cases hy <;> first | rfl | (exact (h1 _ _ _ _ rfl rfl).elim) | (exact (h2 _ _ rfl rfl).elim)
    split at h
    · rename_i l
      split at h
      · rename_i i hi
        split at h
        · cases h
        · rename_i he
          split at h
          · rename_i b hb
            simp only [Option.some.injEq] at h; subst h
            exact aBin_eq_ok hE (neg := false) hx hy hb (fun l _ => ⟨i, hi, he⟩) hp
          · cases h
      · cases h
    · rename_i hna
      split at h
      · rename_i b hb
        simp only [Option.some.injEq] at h; subst h
        exact aBin_eq_ok hE (neg := false) hx hy hb (fun l e => absurd e (hna l)) hp
      · cases h
  · rename_i h1 h2
    have hp : bothPlain x' y' = false := by
      cases hx <;> cases hy <;> first | rfl | (exact (h1 _ _ _ _ rfl rfl).elim) | (exact (h2 _ _ rfl rfl).elim)
    split at h
    · rename_i l
      split at h
      · rename_i i hi
        split at h
        · cases h
        · rename_i he
          split at h
          · rename_i b hb
            simp only [Option.some.injEq] at h; subst h
            exact aBin_eq_ok hE (neg := true) hx hy hb (fun l _ => ⟨i, hi, he⟩) hp
          · cases h
      · cases h
    · rename_i hna
      split at h
      · rename_i b hb
        simp only [Option.some.injEq] at h; subst h
        exact aBin_eq_ok hE (neg := true) hx hy hb (fun l e => absurd e (hna l)) hp
      · cases h
  · cases h

end
end Go.AE
