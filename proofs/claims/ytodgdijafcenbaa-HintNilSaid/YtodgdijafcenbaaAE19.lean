import Derived.Test.YtodgdijafcenbaaAE18
namespace Go.AE

def PT.filter {α : Type} : (Nat → Bool) → PT α → PT α
  | _, .leaf => .leaf
  | f, .node l v r => .node (PT.filter (fun j => f (2 * j + 1)) l) (if f 0 then v else none) (PT.filter (fun j => f (2 * j + 2)) r)

theorem PT.get_filter {α : Type} : ∀ (t : PT α) (f : Nat → Bool) (n : Nat), (PT.filter f t).get n = if f n then t.get n else none
  | .leaf, f, n => by simp [PT.filter, PT.get]
  | .node l v r, f, 0 => by simp [PT.filter, PT.get]
  | .node l v r, f, m + 1 => by
    simp only [PT.filter, PT.get]
    split
    · rename_i hm
      rw [PT.get_filter l]
      rw [show 2 * (m / 2) + 1 = m + 1 from by omega]
    · rename_i hm
      rw [PT.get_filter r]
      rw [show 2 * (m / 2) + 2 = m + 1 from by omega]

section
variable {P : Program} {E : Env} {R : RM} {h h2 : AH} {W : World} {T : PT AV} {a : Act}

theorem idOf_mk {op : Op} {blk : AB} {mk : Nat → AV} (hn : aNew E T op = some (blk, mk)) (id : Nat) : idOf (mk id) = some id := by
  unfold aNew at hn
  split at hn
  · unfold nAlloc at hn
    (repeat' split at hn) <;> first | (cases hn; done) | (simp only [Option.some.injEq, Prod.mk.injEq] at hn; obtain ⟨_, rfl⟩ := hn; rfl)
  · unfold nBox at hn
    (repeat' split at hn) <;> first | (cases hn; done) | (simp only [Option.some.injEq, Prod.mk.injEq] at hn; obtain ⟨_, rfl⟩ := hn; rfl)
  · unfold nBuildSlice at hn
    (repeat' split at hn) <;> first | (cases hn; done) | (simp only [Option.some.injEq, Prod.mk.injEq] at hn; obtain ⟨_, rfl⟩ := hn; rfl)
  · unfold nMakeMap at hn
    (repeat' split at hn) <;> first | (cases hn; done) | (simp only [Option.some.injEq, Prod.mk.injEq] at hn; obtain ⟨_, rfl⟩ := hn; rfl)
  · unfold nMakeSlice at hn
    (repeat' split at hn) <;> first | (cases hn; done) | (simp only [Option.some.injEq, Prod.mk.injEq] at hn; obtain ⟨_, rfl⟩ := hn; rfl)
  · cases hn

theorem aNew_ok (hE : EnvOk P E) (hT : TR R T a.tmps) {o : Oper} {blk : AB} {mk : Nat → AV} (hn : aNew E T o.op = some (blk, mk)) : NewSat P E R W (execOp a.eval o) blk mk := by
  obtain ⟨dst, op, ty, pos, after, guard⟩ := o
  cases op <;> simp only [aNew, reduceCtorEq] at hn
  case alloc t => exact nAlloc_ok hE hn
  case box t x => exact nBox_ok hT hn
  case buildSlice t len parts => exact nBuildSlice_ok hE hT hn
  case makeMap t r => exact nMakeMap_ok hE hT hn
  case makeSlice t l c => exact nMakeSlice_ok hE hT hn

theorem aOp_new {op : Op} (hc : clsOf E op = .new) : aOp E T op h = oNew (aNew E T op) h := by
  unfold clsOf at hc
  cases op <;> simp only [reduceCtorEq] at hc <;> try rfl
  case convert s d x => (repeat' split at hc) <;> cases hc
  case call c => (repeat' split at hc) <;> cases hc

/-! ### the order that is drawn -/
inductive Lin (ops : Array Oper) : (Nat → Bool) → List Nat → Prop where
  | done (s : Nat → Bool) (h : ∀ i, i < ops.size → s i = true) : Lin ops s []
  | step (s : Nat → Bool) (i : Nat) (rest : List Nat) (hi : i < ops.size) (hs : s i = false)
      (he : ∀ o, ops[i]? = some o → ∀ e ∈ o.after.toList, Region.binds .any e = true → s e.on = true) (hr : Lin ops (fun j => j == i || s j) rest) : Lin ops s (i :: rest)

theorem count_set : ∀ (l : List Bool) (i : Nat), l[i]? = some false → (l.set i true).count false + 1 = l.count false
  | [], i, h => by simp at h
  | b :: l, 0, h => by simp at h; subst h; simp
  | b :: l, i + 1, h => by
    have := count_set l i (by simpa using h)
    cases b <;> simp [← this]

/-- one that isn't listed, all of whose edges are -/
theorem cand_of {ops : Array Oper} {plan : List PI} (hp : PlanOk E ops.toList plan) {s : Nat → Bool} (hx : ∃ i, i < ops.size ∧ s i = false) :
    ∃ p ∈ plan, s p.i = false ∧ ∀ x, bitOf p.m x = true → s x = true := by
  obtain ⟨i, hi, hsi⟩ := hx
  obtain ⟨p0, hp0, he0⟩ := hp.all i (by simpa using hi)
  have key : ∀ (l : List PI) (done : Nat), TopOk done l → (∀ x, bitOf done x = true → s x = true) → (∃ p ∈ l, s p.i = false) → ∃ p ∈ l, s p.i = false ∧ ∀ x, bitOf p.m x = true → s x = true := by
    intro l
    induction l with
    | nil => intro done _ _ hx; obtain ⟨p, hp, _⟩ := hx; simp at hp
    | cons p l ih =>
      intro done ht hd hx
      cases hsp : s p.i with
      | false => exact ⟨p, by simp, hsp, fun x hx => hd x (ht.1 x hx)⟩
      | true =>
        obtain ⟨q, hq, h1, h2⟩ := ih _ ht.2 (fun x hx => (bit_lor hx).elim (hd x) (fun e => e ▸ hsp)) (by
          obtain ⟨q, hq, hsq⟩ := hx
          rcases List.mem_cons.1 hq with rfl | hq
          · rw [hsp] at hsq; cases hsq
          · exact ⟨q, hq, hsq⟩)
        exact ⟨q, by simp [hq], h1, h2⟩
  exact key plan 0 hp.top (fun x hx => by rw [bitOf_eq] at hx; simp at hx) ⟨p0, hp0, by rw [he0]; exact hsi⟩

theorem lin_go {ops : Array Oper} {plan : List PI} (hp : PlanOk E ops.toList plan) : ∀ (fuel t : Nat) (listed : Array Bool) (acc : List Nat), listed.size = ops.size → listed.toList.count false ≤ fuel →
    ∃ rest, Region.linearise.go .any ops fuel t listed acc = acc.reverse ++ rest ∧ Lin ops (fun i => listed.getD i false) rest
  | 0, t, listed, acc, hs, hc => by
    refine ⟨[], by simp [Region.linearise.go], .done _ fun i hi => ?_⟩
    have hi' : i < listed.size := by omega
    have hmem : listed[i] ∈ listed.toList := by simp
    cases hb : listed[i] with
    | true => simp [Array.getD, hi', hb]
    | false =>
      rw [hb] at hmem
      have := List.count_pos_iff.2 hmem
      omega
  | fuel + 1, t, listed, acc, hs, hc => by
    simp only [Region.linearise.go]
    generalize hrs : (List.range ops.size).filter (fun i => !listed.getD i true && ((ops[i]?).map (·.after.all fun e => !Region.binds .any e || listed.getD e.on false)).getD false) = rs
    have hmem : ∀ i, i ∈ rs ↔ (i < ops.size ∧ listed.getD i false = false ∧ ∀ o, ops[i]? = some o → ∀ e ∈ o.after.toList, Region.binds .any e = true → listed.getD e.on false = true) := by
      intro i
      rw [← hrs, List.mem_filter, List.mem_range]
      constructor
      · rintro ⟨h1, h2⟩
        simp only [Bool.and_eq_true, Bool.not_eq_true'] at h2
        have hi' : i < listed.size := by omega
        refine ⟨h1, ?_, fun o ho e he hb => ?_⟩
        · have := h2.1; simp [Array.getD, hi'] at this ⊢; exact this
        · have := h2.2
          rw [ho] at this
          simp only [Option.map_some, Option.getD_some, Array.all_eq_true] at this
          obtain ⟨k, hk⟩ := List.getElem?_of_mem he
          have hk' : k < o.after.size := by have := (List.getElem?_eq_some_iff.1 hk).1; simpa using this
          have h3 := this k hk'
          have : o.after[k] = e := by have := (List.getElem?_eq_some_iff.1 hk).2; simpa using this
          rw [this, hb] at h3
          simpa using h3
      · rintro ⟨h1, h2, h3⟩
        have hi' : i < listed.size := by omega
        refine ⟨h1, ?_⟩
        have ho : ops[i]? = some ops[i] := by simp [h1]
        rw [ho]
        simp only [Option.map_some, Option.getD_some, Bool.and_eq_true, Bool.not_eq_true', Array.all_eq_true]
        refine ⟨by simp [Array.getD, hi'] at h2 ⊢; exact h2, fun k hk => ?_⟩
        cases hb : Region.binds .any (ops[i].after[k]) with
        | false => simp
        | true => simp only [Bool.not_true, Bool.false_or]; exact h3 _ ho _ (by simp) hb
    split
    · rename_i i hi
      have hin : i ∈ rs := List.mem_of_getElem? hi
      obtain ⟨h1, h2, h3⟩ := (hmem i).1 hin
      have hi' : i < listed.size := by omega
      have hli : listed.toList[i]? = some false := by
        simp [Array.getD, hi'] at h2
        simp [hi', h2]
      have hcs := count_set _ _ hli
      obtain ⟨rest, hr, hl⟩ := lin_go hp fuel (t / rs.length) (listed.setIfInBounds i true) (i :: acc) (by simp [hs]) (by rw [Array.toList_setIfInBounds]; omega)
      refine ⟨i :: rest, by rw [hr]; simp, .step _ i rest h1 h2 h3 ?_⟩
      have : (fun j => (listed.setIfInBounds i true).getD j false) = (fun j => j == i || listed.getD j false) := by
        funext j
        by_cases hj : j = i
        · subst hj; simp [Array.getD, hi']
        · have hj' : i ≠ j := fun e => hj e.symm
          simp only [Array.getD_eq_getD_getElem?, Array.getElem?_setIfInBounds, hj', if_false]
          simp [hj]
      rw [← this]; exact hl
    · rename_i hnone
      refine ⟨[], by simp, .done _ fun i hi => ?_⟩
      have hrs0 : rs = [] := by
        cases rs with
        | nil => rfl
        | cons x rs =>
          have : t % (x :: rs).length < (x :: rs).length := Nat.mod_lt _ (by simp)
          rw [List.getElem?_eq_getElem this] at hnone
          cases hnone
      by_cases hsi : listed.getD i false = true
      · exact hsi
      · exfalso
        obtain ⟨p, hpp, h1, h2⟩ := cand_of hp (s := fun i => listed.getD i false) ⟨i, hi, by simpa using hsi⟩
        have hit := hp.item p hpp
        have ho : ops[p.i]? = some p.o := by have := hit.o; simpa using this
        have hlt : p.i < ops.size := (Array.getElem?_eq_some_iff.1 ho).1
        have : p.i ∈ rs := (hmem _).2 ⟨hlt, h1, fun o ho' e he hb => by
          rw [ho] at ho'; simp only [Option.some.injEq] at ho'; subst ho'
          exact h2 _ (hit.edge e he hb)⟩
        rw [hrs0] at this
        simp at this

theorem lin_schedule {ops : Array Oper} {plan : List PI} (hp : PlanOk E ops.toList plan) (t : Nat) : Lin ops (fun _ => false) (Region.schedule true ops t) := by
  obtain ⟨rest, hr, hl⟩ := lin_go hp ops.size t (Array.replicate ops.size false) [] (by simp) (by simp)
  have he : Region.schedule true ops t = rest := by
    unfold Region.schedule Region.linearise
    simp only [Bool.true_or, if_true]
    rw [hr]; simp
  rw [he]
  have : (fun i => (Array.replicate ops.size false).getD i false) = fun _ => false := by
    funext i
    simp only [Array.getD_eq_getD_getElem?, Array.getElem?_replicate]
    split <;> rfl
  rw [this] at hl
  exact hl

end
end Go.AE
