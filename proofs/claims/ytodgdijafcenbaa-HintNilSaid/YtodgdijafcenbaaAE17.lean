import Derived.Test.YtodgdijafcenbaaAE16
namespace Go.AE
section
variable {P : Program} {E : Env} {R : RM} {h h2 : AH} {W : World} {T : PT AV} {a : Act}

/-- what a bare operation gives hangs on its operands alone -/
theorem bare_ok {op : Op} (hb : bare op = true) (hc : clsOf E op = .rd) {r : OR} (hr : aOp E T op h = some r) : ∃ v, r = .val v h ∧ ∀ h2, aOp E T op h2 = some (.val v h2) := by
  unfold clsOf at hc
  unfold bare at hb
  cases op <;> simp only [reduceCtorEq] at hc hb <;> simp only [aOp] at hr ⊢
  case move x =>
    unfold oMove at hr ⊢
    split at hr
    · simp only [Option.some.injEq] at hr; exact ⟨_, hr.symm, fun h2 => rfl⟩
    · cases hr
  case pick c x y =>
    unfold oPick at hr ⊢
    split at hr
    · split at hr
      · simp only [Option.some.injEq] at hr; exact ⟨_, hr.symm, fun h2 => rfl⟩
      · cases hr
    · split at hr
      · simp only [Option.some.injEq] at hr; exact ⟨_, hr.symm, fun h2 => rfl⟩
      · cases hr
    · cases hr
  case build t parts =>
    unfold oBuild at hr ⊢
    (repeat' split at hr) <;> first | (cases hr; done) | (simp only [Option.some.injEq] at hr; exact ⟨_, hr.symm, fun h2 => by simp only [*]⟩)
  case nilCheck x =>
    unfold oNilCheck at hr ⊢
    split at hr
    · simp only [Option.some.injEq] at hr; exact ⟨_, hr.symm, fun h2 => rfl⟩
    · simp only [Option.some.injEq] at hr; exact ⟨_, hr.symm, fun h2 => rfl⟩
    · cases hr
  case binOp op t x y yt =>
    unfold oBin at hr ⊢
    (repeat' split at hr) <;> first | (cases hr; done) | (simp only [Option.some.injEq] at hr; exact ⟨_, hr.symm, fun h2 => by simp only [*]⟩)
  case unOp op t x =>
    unfold oUn at hr ⊢
    (repeat' split at hr) <;> first | (cases hr; done) | (simp only [Option.some.injEq] at hr; exact ⟨_, hr.symm, fun h2 => by simp only [*]⟩)
  case makeFunc fn first captured =>
    unfold oMakeFunc at hr ⊢
    (repeat' split at hr) <;> first | (cases hr; done) | (simp only [Option.some.injEq] at hr; exact ⟨_, hr.symm, fun h2 => by simp only [*]⟩)
  case fieldAddr s x f =>
    unfold oFieldAddr at hr ⊢
    (repeat' split at hr) <;> first | (cases hr; done) | (simp only [Option.some.injEq] at hr; exact ⟨_, hr.symm, fun h2 => by simp only [*]⟩)
  case field t x f =>
    unfold oField at hr ⊢
    (repeat' split at hr) <;> first | (cases hr; done) | (simp only [Option.some.injEq] at hr; exact ⟨_, hr.symm, fun h2 => by simp only [*]⟩)
  case indexAddr t x ix =>
    unfold oIndexAddr at hr ⊢
    (repeat' split at hr) <;> first | (cases hr; done) | (simp only [Option.some.injEq] at hr; exact ⟨_, hr.symm, fun h2 => by simp only [*]⟩)
  case index t x ix =>
    unfold oIndex at hr ⊢
    (repeat' split at hr) <;> first | (cases hr; done) | (simp only [Option.some.injEq] at hr; exact ⟨_, hr.symm, fun h2 => by simp only [*]⟩)
  case extract t ix =>
    unfold oExtract at hr ⊢
    (repeat' split at hr) <;> first | (cases hr; done) | (simp only [Option.some.injEq] at hr; exact ⟨_, hr.symm, fun h2 => by simp only [*]⟩)

/-! ### what the comparisons say -/
theorem beq1_eq {x y : AV} (hb : beq1 x y = true) : x = y := by
  unfold beq1 at hb
  split at hb
  · (repeat' split at hb) <;> first | rfl | (cases hb; done)
  · split at hb
    · rename_i hk
      have := kEq_eq hk; subst this
      rw [iEq_eq] at hb
      rw [of_decide_eq_true hb]
    · cases hb
  · rw [u8eq_eq] at hb
    rw [eq_of_beq hb]
  · rfl
  · split at hb
    · rename_i hk
      rw [Nat.eq_of_beq_eq_true hk, Nat.eq_of_beq_eq_true hb]
    · cases hb
  · rfl
  · split at hb
    · rename_i h1
      split at hb
      · rename_i h2
        split at hb
        · rename_i h3
          rw [Nat.eq_of_beq_eq_true h1, Nat.eq_of_beq_eq_true h2, Nat.eq_of_beq_eq_true h3, Nat.eq_of_beq_eq_true hb]
        · cases hb
      · cases hb
    · cases hb
  · rfl
  · rw [Nat.eq_of_beq_eq_true hb]
  · rfl
  · rfl
  · cases hb

theorem beqL_eq : ∀ {x y : List AV}, beqL x y = true → x = y
  | [], [], _ => rfl
  | [], _ :: _, h => by simp [beqL] at h
  | _ :: _, [], h => by simp [beqL] at h
  | a :: x, b :: y, h => by
    simp only [beqL] at h
    split at h
    · rename_i h1
      rw [beq1_eq h1, beqL_eq h]
    · cases h

theorem beqV_eq {x y : AV} (hb : beqV x y = true) : x = y := by
  unfold beqV at hb
  split at hb
  · rw [beqL_eq hb]
  · exact beq1_eq hb

theorem beqP_eq : ∀ {x y : PT AV}, beqP x y = true → x = y
  | .leaf, .leaf, _ => rfl
  | .leaf, .node .., h => by simp [beqP] at h
  | .node .., .leaf, h => by simp [beqP] at h
  | .node l v r, .node l' v' r', h => by
    simp only [beqP] at h
    split at h
    · split at h
      · rename_i h1
        rw [beqP_eq h1, beqP_eq h]
      · cases h
    · split at h
      · rename_i h0
        split at h
        · rename_i h1
          rw [beq1_eq h0, beqP_eq h1, beqP_eq h]
        · cases h
      · cases h
    · cases h

theorem beqB_eq {x y : AB} (hb : beqB x y = true) : x = y := by
  unfold beqB at hb
  split at hb
  · split at hb
    · rename_i h1
      split at hb
      · rename_i h2
        rw [Nat.eq_of_beq_eq_true h1, Nat.eq_of_beq_eq_true h2, beqP_eq hb]
      · cases hb
    · cases hb
  · split at hb
    · rfl
    · cases hb
  · cases hb

/-! ### bits -/
theorem bitOf_eq (m i : Nat) : bitOf m i = m.testBit i := by
  unfold bitOf
  rw [Nat.testBit_eq_decide_div_mod_eq, beq_dec]
  rfl

/-- one operation stands ahead of another one, by the edges -/
inductive Anc (ops : List Oper) : Nat → Nat → Prop where
  | edge (j : Nat) (o : Oper) (e : Edge) (ho : ops[j]? = some o) (he : e ∈ o.after.toList) (hb : Region.binds .any e = true) : Anc ops j e.on
  | trans (j : Nat) (o : Oper) (e : Edge) (ho : ops[j]? = some o) (he : e ∈ o.after.toList) (hb : Region.binds .any e = true) (x : Nat) (hx : Anc ops e.on x) : Anc ops j x

theorem maskOf_anc {acc : List Nat} {x : Nat} : ∀ {es : List Edge}, bitOf (maskOf acc es) x = true → ∃ e ∈ es, Region.binds .any e = true ∧ (x = e.on ∨ ∃ m, nth acc e.on = some m ∧ bitOf m x = true)
  | [], h => by simp [maskOf, bitOf_eq] at h
  | e :: es, h => by
    simp only [maskOf] at h
    cases hb : Region.binds .any e with
    | true =>
      rw [hb] at h
      simp only at h
      rw [bitOf_eq] at h
      have h' : (Nat.pow 2 e.on ||| (match nth acc e.on with | some m => m | none => 0) ||| maskOf acc es).testBit x = true := h
      rw [Nat.testBit_or, Nat.testBit_or, Bool.or_eq_true, Bool.or_eq_true] at h'
      rcases h' with (h1 | h1) | h1
      · have : (2 ^ e.on).testBit x = true := h1
        rw [Nat.testBit_two_pow] at this
        have hx : e.on = x := by simpa using this
        exact ⟨e, by simp, hb, .inl hx.symm⟩
      · split at h1
        · rename_i m hm
          exact ⟨e, by simp, hb, .inr ⟨m, hm, by rw [bitOf_eq]; exact h1⟩⟩
        · simp at h1
      · obtain ⟨e', he', hb', hx⟩ := maskOf_anc (es := es) (by rw [bitOf_eq]; exact h1)
        exact ⟨e', by simp [he'], hb', hx⟩
    | false =>
      rw [hb] at h
      obtain ⟨e', he', hb', hx⟩ := maskOf_anc (es := es) h
      exact ⟨e', by simp [he'], hb', hx⟩

theorem maskOf_edge {acc : List Nat} {e : Edge} (hb : Region.binds .any e = true) : ∀ {es : List Edge}, e ∈ es → bitOf (maskOf acc es) e.on = true
  | [], h => by simp at h
  | e' :: es, h => by
    simp only [maskOf]
    rcases List.mem_cons.1 h with rfl | h
    · rw [hb]
      simp only
      rw [bitOf_eq]
      show (Nat.pow 2 e.on ||| (match nth acc e.on with | some m => m | none => 0) ||| maskOf acc es).testBit e.on = true
      rw [Nat.testBit_or, Nat.testBit_or]
      have : (Nat.pow 2 e.on).testBit e.on = true := by
        show (2 ^ e.on).testBit e.on = true
        rw [Nat.testBit_two_pow]; simp
      rw [this]; rfl
    · have ih := maskOf_edge (acc := acc) hb h
      cases hb' : Region.binds .any e' with
      | true =>
        simp only
        rw [bitOf_eq] at ih ⊢
        show (Nat.pow 2 e'.on ||| (match nth acc e'.on with | some m => m | none => 0) ||| maskOf acc es).testBit e.on = true
        rw [Nat.testBit_or, ih]; simp
      | false => exact ih

structure ItemOk (E : Env) (ops : List Oper) (p : PI) : Prop where
  o : ops[p.i]? = some p.o
  c : p.c = clsOf E p.o.op
  anc : ∀ x, bitOf p.m x = true → Anc ops p.i x
  edge : ∀ e ∈ p.o.after.toList, Region.binds .any e = true → bitOf p.m e.on = true

theorem items_ok (E : Env) (ops : List Oper) : ∀ (l : List Oper) (i : Nat) (acc : List Nat), ops.drop i = l → acc.length = i → (∀ j m, acc[j]? = some m → ∀ x, bitOf m x = true → Anc ops j x) →
    (∀ p ∈ items E l i acc, ItemOk E ops p) ∧ (items E l i acc).map (·.i) = List.range' i l.length
  | [], i, acc, _, _, _ => by simp [items]
  | o :: l, i, acc, hd, hl, ha => by
    have ho : ops[i]? = some o := by
      have : (ops.drop i)[0]? = some o := by rw [hd]; rfl
      rw [List.getElem?_drop] at this
      simpa using this
    have hanc : ∀ x, bitOf (maskOf acc o.after.toList) x = true → Anc ops i x := by
      intro x hx
      obtain ⟨e, he, hb, h1 | ⟨m, hm, hmx⟩⟩ := maskOf_anc hx
      · subst h1; exact .edge i o e ho he hb
      · rw [nth_eq] at hm
        exact .trans i o e ho he hb x (ha _ _ hm x hmx)
    obtain ⟨h1, h2⟩ := items_ok E ops l (Nat.succ i) (acc ++ [maskOf acc o.after.toList]) (by have := congrArg (List.drop 1) hd; rw [List.drop_drop] at this; simpa using this) (by simp [hl]) (by
      intro j m hj x hx
      by_cases hji : j < acc.length
      · rw [List.getElem?_append_left hji] at hj; exact ha j m hj x hx
      · rw [List.getElem?_append_right (by omega)] at hj
        have : j = i := by
          have := (List.getElem?_eq_some_iff.1 hj).1
          simp at this; omega
        subst this
        rw [show j - acc.length = 0 from by omega] at hj
        simp at hj
        subst hj
        exact hanc x hx)
    refine ⟨fun p hp => ?_, ?_⟩
    · simp only [items, List.mem_cons] at hp
      rcases hp with rfl | hp
      · exact ⟨ho, rfl, hanc, fun e he hb => maskOf_edge hb he⟩
      · exact h1 p hp
    · simp only [items, List.map_cons, h2, List.length_cons]
      rw [List.range'_succ]

theorem pickBy_perm {f : PI → Bool} : ∀ {l : List PI} {p : PI} {r : List PI}, pickBy f l = some (p, r) → l.Perm (p :: r)
  | [], p, r, h => by simp [pickBy] at h
  | q :: l, p, r, h => by
    simp only [pickBy] at h
    split at h
    · simp only [Option.some.injEq, Prod.mk.injEq] at h
      obtain ⟨rfl, rfl⟩ := h
      exact List.Perm.refl _
    · split at h
      · rename_i q' r' hp
        simp only [Option.some.injEq, Prod.mk.injEq] at h
        obtain ⟨rfl, rfl⟩ := h
        have := pickBy_perm hp
        exact (List.Perm.cons q this).trans (List.Perm.swap _ _ _)
      · cases h

theorem planGo_perm : ∀ {n done : Nat} {l q : List PI}, planGo n done l = some q → q.Perm l
  | 0, done, l, q, h => by
    simp only [planGo] at h
    split at h
    · simp only [Option.some.injEq] at h; subst h; exact List.Perm.refl _
    · cases h
  | n + 1, done, l, q, h => by
    simp only [planGo] at h
    split at h
    · rename_i p r hp
      split at h
      · rename_i q' hq
        simp only [Option.some.injEq] at h; subst h
        exact (List.Perm.cons p (planGo_perm hq)).trans (pickBy_perm hp).symm
      · cases h
    · split at h
      · rename_i p r hp
        split at h
        · rename_i q' hq
          simp only [Option.some.injEq] at h; subst h
          exact (List.Perm.cons p (planGo_perm hq)).trans (pickBy_perm hp).symm
        · cases h
      · split at h
        · simp only [Option.some.injEq] at h; subst h; exact List.Perm.refl _
        · cases h

theorem planOk_spec {ops : List Oper} : ∀ {l : List PI}, planOk ops l = true → l.Pairwise (fun p q => pairOk ops p q = true) ∧ ∀ p ∈ l, guardOk ops p = true
  | [], _ => by simp
  | p :: l, h => by
    simp only [planOk] at h
    split at h
    · rename_i hg
      split at h
      · rename_i ha
        obtain ⟨h1, h2⟩ := planOk_spec h
        have hall : ∀ (l : List PI), allLe (pairOk ops p) l = true → ∀ q ∈ l, pairOk ops p q = true := by
          intro l
          induction l with
          | nil => intro _ q hq; simp at hq
          | cons x l ih =>
            intro hl q hq
            simp only [allLe] at hl
            split at hl
            · rename_i hx
              rcases List.mem_cons.1 hq with rfl | hq
              · exact hx
              · exact ih hl q hq
            · cases hl
        exact ⟨List.pairwise_cons.2 ⟨hall l ha, h1⟩, fun q hq => (List.mem_cons.1 hq).elim (fun e => e ▸ hg) (h2 q)⟩
      · cases h
    · cases h

theorem pickBy_f {f : PI → Bool} : ∀ {l : List PI} {p : PI} {r : List PI}, pickBy f l = some (p, r) → f p = true
  | [], p, r, h => by simp [pickBy] at h
  | q :: l, p, r, h => by
    simp only [pickBy] at h
    split at h
    · rename_i hf
      simp only [Option.some.injEq, Prod.mk.injEq] at h
      obtain ⟨rfl, rfl⟩ := h
      exact hf
    · split at h
      · rename_i q' r' hp
        simp only [Option.some.injEq, Prod.mk.injEq] at h
        obtain ⟨rfl, rfl⟩ := h
        exact pickBy_f hp
      · cases h

theorem free_spec {done : Nat} {p : PI} (hf : free done p = true) {x : Nat} (hx : bitOf p.m x = true) : bitOf done x = true := by
  unfold free at hf
  have he : p.m &&& done = p.m := Nat.eq_of_beq_eq_true hf
  rw [bitOf_eq] at hx ⊢
  rw [← he, Nat.testBit_and] at hx
  simp at hx
  exact hx.2

theorem bit_lor {done i x : Nat} (h : bitOf (Nat.lor done (Nat.pow 2 i)) x = true) : bitOf done x = true ∨ x = i := by
  rw [bitOf_eq] at h ⊢
  have h' : (done ||| 2 ^ i).testBit x = true := h
  rw [Nat.testBit_or, Nat.testBit_two_pow] at h'
  simp at h'
  rcases h' with h' | h'
  · exact .inl h'
  · exact .inr h'.symm

/-- what stands ahead of one by the edges stands ahead of it in the plan -/
def TopOk (done : Nat) : List PI → Prop
  | [] => True
  | p :: ps => (∀ x, bitOf p.m x = true → bitOf done x = true) ∧ TopOk (Nat.lor done (Nat.pow 2 p.i)) ps

theorem planGo_top : ∀ {n done : Nat} {l q : List PI}, planGo n done l = some q → TopOk done q
  | 0, done, l, q, h => by
    simp only [planGo] at h
    split at h
    · simp only [Option.some.injEq] at h; subst h; trivial
    · cases h
  | n + 1, done, l, q, h => by
    simp only [planGo] at h
    split at h
    · rename_i p r hp
      split at h
      · rename_i q' hq
        simp only [Option.some.injEq] at h; subst h
        have hf := pickBy_f hp
        simp only [Bool.and_eq_true] at hf
        exact ⟨fun x hx => free_spec hf.1 hx, planGo_top hq⟩
      · cases h
    · split at h
      · rename_i p r hp
        split at h
        · rename_i q' hq
          simp only [Option.some.injEq] at h; subst h
          exact ⟨fun x hx => free_spec (pickBy_f hp) hx, planGo_top hq⟩
        · cases h
      · split at h
        · simp only [Option.some.injEq] at h; subst h; trivial
        · cases h

structure PlanOk (E : Env) (ops : List Oper) (plan : List PI) : Prop where
  item : ∀ p ∈ plan, ItemOk E ops p
  pair : plan.Pairwise (fun p q => pairOk ops p q = true)
  guard : ∀ p ∈ plan, guardOk ops p = true
  all : ∀ i, i < ops.length → ∃ p ∈ plan, p.i = i
  nodup : (plan.map (·.i)).Nodup
  top : TopOk 0 plan

theorem planFor_ok {ops : List Oper} {plan : List PI} (hp : planFor E ops = some plan) : PlanOk E ops plan := by
  unfold planFor at hp
  split at hp
  · rename_i l hl
    split at hp
    · rename_i hok
      simp only [Option.some.injEq] at hp; subst hp
      have hperm := planGo_perm hl
      obtain ⟨h1, h2⟩ := items_ok E ops ops 0 [] rfl rfl (by intro j m hj; simp at hj)
      obtain ⟨h3, h4⟩ := planOk_spec hok
      have hmap : (l.map (·.i)).Perm (List.range' 0 ops.length) := by rw [← h2]; exact hperm.map _
      refine ⟨fun p hp => h1 p (hperm.mem_iff.1 hp), h3, h4, fun i hi => ?_, hmap.nodup_iff.2 (List.nodup_range' ..), planGo_top hl⟩
      have : i ∈ l.map (·.i) := hmap.mem_iff.2 (by rw [List.mem_range'_1]; omega)
      obtain ⟨p, hp, he⟩ := List.mem_map.1 this
      exact ⟨p, hp, he⟩
    · cases hp
  · cases hp

end
end Go.AE
