import Derived.Test.YtodgdijafcenbaaAE8
namespace Go.AE
section
variable {P : Program} {E : Env} {R : RM} {h : AH} {W : World} {T : PT AV} {a : Act}

/-! ### rows of zeros -/
theorem rep_length {α : Type} (n : Nat) (l : List α) : (rep n l).length = n * l.length := by
  induction n with
  | zero => simp [rep]
  | succ n ih => simp [rep, ih, Nat.add_mul]; omega
theorem rep_get {α : Type} (n : Nat) (l : List α) : ∀ i, i < n * l.length → (rep n l)[i]? = l[i % l.length]? := by
  induction n with
  | zero => intro i h; omega
  | succ n ih =>
    intro i h
    simp only [rep]
    by_cases hi : i < l.length
    · rw [List.getElem?_append_left hi, Nat.mod_eq_of_lt hi]
    · rw [List.getElem?_append_right (by omega), ih _ (by rw [Nat.add_mul] at h; omega)]
      congr 1
      rw [← Nat.mod_eq_sub_mod (by omega)]
theorem VRs.rep {l : List AV} {l' : List Value} (hl : VRs R l l') (n : Nat) : VRs R (rep n l) (rep n l') := by
  induction n with
  | zero => exact .nil
  | succ n ih => exact hl.append ih
theorem zeros_eq (zl : List Value) (n : Nat) : ((Array.range (n * zl.length)).map fun i => (⟨zl⟩ : Array Value)[i % (⟨zl⟩ : Array Value).size]!) = ⟨Go.AE.rep n zl⟩ := by
  apply Array.toList_inj.1
  apply List.ext_getElem?
  intro i
  by_cases hi : i < n * zl.length
  · rw [rep_get _ _ _ hi]
    have hpos : 0 < zl.length := by
      rcases Nat.eq_zero_or_pos zl.length with e | e
      · rw [e] at hi; omega
      · exact e
    have hm : i % zl.length < zl.length := Nat.mod_lt _ hpos
    simp [hi, hm]
  · have h1 : (Go.AE.rep n zl)[i]? = none := List.getElem?_eq_none (by rw [rep_length]; omega)
    rw [h1]
    simp; omega

/-! ### parts laid over cells -/
theorem over_spec {α : Type} : ∀ (l xs r : List α), over l xs = some r → r.length = l.length ∧ xs.length ≤ l.length ∧ ∀ i, r[i]? = if i < xs.length then xs[i]? else l[i]?
  | l, [], r, h => by
    have : r = l := by cases l <;> simp [over] at h <;> rw [h]
    subst this; simp
  | [], x :: xs, r, h => by simp [over] at h
  | y :: l, x :: xs, r, h => by
    simp only [over] at h
    cases h1 : over l xs with
    | none => rw [h1] at h; simp at h
    | some q =>
      rw [h1] at h; simp only [Option.some.injEq] at h; subst h
      obtain ⟨e1, e2, e3⟩ := over_spec l xs q h1
      refine ⟨by simp [e1], by simp; omega, fun i => ?_⟩
      cases i with
      | zero => simp
      | succ i => simp only [List.getElem?_cons_succ, e3, List.length_cons]; simp

theorem putAt_spec {α : Type} (l : List α) : ∀ (o : Nat) (xs r : List α), putAt l o xs = some r → r.length = l.length ∧ o + xs.length ≤ l.length ∧
    ∀ i, r[i]? = if o ≤ i ∧ i < o + xs.length then xs[i - o]? else l[i]? := by
  induction l with
  | nil =>
    intro o xs r h
    cases o with
    | zero =>
      simp only [putAt] at h
      obtain ⟨e1, e2, e3⟩ := over_spec _ _ _ h
      exact ⟨e1, by simpa using e2, fun i => by rw [e3]; simp⟩
    | succ o => simp [putAt] at h
  | cons y l ih =>
    intro o xs r h
    cases o with
    | zero =>
      simp only [putAt] at h
      obtain ⟨e1, e2, e3⟩ := over_spec _ _ _ h
      exact ⟨e1, by simpa using e2, fun i => by rw [e3]; simp⟩
    | succ o =>
      simp only [putAt] at h
      cases h1 : putAt l o xs with
      | none => rw [h1] at h; simp at h
      | some q =>
        rw [h1] at h; simp only [Option.some.injEq] at h; subst h
        obtain ⟨e1, e2, e3⟩ := ih o xs q h1
        refine ⟨by simp [e1], by simp; omega, fun i => ?_⟩
        cases i with
        | zero => rw [if_neg (by omega)]; simp
        | succ i =>
          simp only [List.getElem?_cons_succ, e3]
          by_cases hc : o ≤ i ∧ i < o + xs.length
          · rw [if_pos hc, if_pos (by omega)]; congr 1; omega
          · rw [if_neg hc, if_neg (by omega)]

theorem foldl_set (xs : List Value) : ∀ (k off : Nat) (cs : Array Value), off + k + xs.length ≤ cs.size →
    ((xs.zipIdx k).foldl (fun (cs : Array Value) (p : Value × Nat) => cs.setIfInBounds (off + p.2) p.1) cs).size = cs.size ∧
    ∀ i, ((xs.zipIdx k).foldl (fun (cs : Array Value) (p : Value × Nat) => cs.setIfInBounds (off + p.2) p.1) cs)[i]? = if off + k ≤ i ∧ i < off + k + xs.length then xs[i - (off + k)]? else cs[i]? := by
  induction xs with
  | nil => intro k off cs _; refine ⟨rfl, fun i => ?_⟩; rw [if_neg (by simp only [List.length_nil]; omega)]; rfl
  | cons x xs ih =>
    intro k off cs hle
    simp only [List.length_cons] at hle
    simp only [List.zipIdx_cons, List.foldl_cons]
    obtain ⟨e1, e2⟩ := ih (k + 1) off (cs.setIfInBounds (off + k) x) (by simp; omega)
    refine ⟨by rw [e1]; simp, fun i => ?_⟩
    rw [e2, Array.getElem?_setIfInBounds]
    simp only [List.length_cons]
    by_cases h1 : off + (k + 1) ≤ i ∧ i < off + (k + 1) + xs.length
    · rw [if_pos h1, if_pos (by omega)]
      have : i - (off + k) = (i - (off + (k + 1))) + 1 := by omega
      rw [this, List.getElem?_cons_succ]
    · rw [if_neg h1]
      by_cases h2 : off + k = i
      · subst h2; rw [if_pos rfl, if_pos (by omega), if_pos (by omega)]; simp
      · rw [if_neg h2, if_neg (by omega)]

inductive PR (R : RM) : List (Nat × AV) → List (Nat × Value) → Prop where
  | nil : PR R [] []
  | cons (i : Nat) (v : AV) (v' : Value) (l : List (Nat × AV)) (l' : List (Nat × Value)) (hv : VR R v v') (hl : PR R l l') : PR R ((i, v) :: l) ((i, v') :: l')

theorem parts_rel (hT : TR R T a.tmps) : ∀ {l : List (Nat × Operand)} {vs : List (Nat × AV)}, aParts T l = some vs → PR R vs (l.map fun (i, x) => (i, a.eval x))
  | [], vs, h => by simp [aParts] at h; subst h; exact .nil
  | (i, x) :: l, vs, h => by
    simp only [aParts] at h
    cases h1 : aEval T x with
    | none => rw [h1] at h; simp at h
    | some v =>
      rw [h1] at h; simp only at h
      cases h2 : aParts T l with
      | none => rw [h2] at h; simp at h
      | some r =>
        rw [h2] at h; simp only [Option.some.injEq] at h; subst h
        exact .cons _ _ _ _ _ (eval_rel hT h1) (parts_rel hT h2)

theorem fill_rel (place place' : Nat → Option (Nat × Nat)) (hp : ∀ j q, place j = some q → place' j = some q) : ∀ (ps : List (Nat × AV)) (ps' : List (Nat × Value)) (cs l : List AV) (cs' : Array Value),
    PR R ps ps' → VRs R cs cs'.toList → aFill place cs ps = some l → ∃ l' : Array Value, Instr.fill place' cs' ps' = some l' ∧ VRs R l l'.toList := by
  intro ps
  induction ps with
  | nil =>
    intro ps' cs l cs' hps hcs h
    cases hps
    simp only [aFill, Option.some.injEq] at h; subst h
    exact ⟨cs', rfl, hcs⟩
  | cons p ps ih =>
    intro ps' cs l cs' hps hcs h
    cases hps with
    | cons i v v' _ ps' hv hl =>
      simp only [aFill] at h
      split at h
      · cases h
      · rename_i off size hpl
        split at h
        · cases h
        · rename_i hsz
          have hsz' : v.cells.length = size := Nat.eq_of_beq_eq_true hsz
          split at h
          · rename_i cs2 hput
            obtain ⟨e1, e2, e3⟩ := putAt_spec _ _ _ _ hput
            have hvc := hv.cells
            have hlen := hvc.length
            have hclen := hcs.length
            simp only [Array.length_toList] at hlen hclen
            obtain ⟨f1, f2⟩ := foldl_set v'.cells.toList 0 off cs' (by simp; omega)
            have hrel : VRs R cs2 (v'.cells.toList.zipIdx.foldl (fun (cs : Array Value) (p : Value × Nat) => cs.setIfInBounds (off + p.2) p.1) cs').toList := by
              refine VRs.of_get ((e1.trans hclen).trans f1.symm) fun j w hj => ?_
              rw [Array.getElem?_toList, f2]
              rw [e3] at hj
              simp only [Nat.add_zero, Array.length_toList]
              by_cases hc : off ≤ j ∧ j < off + v.cells.length
              · rw [if_pos hc] at hj
                rw [if_pos (by omega)]
                exact hvc.get hj
              · rw [if_neg hc] at hj
                rw [if_neg (by omega)]
                obtain ⟨w', hw', hwr⟩ := hcs.get hj
                exact ⟨w', by rw [← hw', Array.getElem?_toList], hwr⟩
            obtain ⟨l', hl', hlr⟩ := ih ps' cs2 l _ hl hrel h
            refine ⟨l', ?_, hlr⟩
            simp only [Instr.fill, hp _ _ hpl]
            rw [if_neg (by simp; omega)]
            rw [← hl']
            congr 1
            rw [← Array.foldl_toList, Array.toList_zipIdx]
          · cases h

theorem mapM_get {α β : Type} (f : α → Option β) : ∀ (l : List α) (r : List β), l.mapM f = some r → ∀ (j : Nat) x, l[j]? = some x → ∃ y, f x = some y ∧ r[j]? = some y
  | [], r, h, j, x, hx => by simp at hx
  | a :: l, r, h, j, x, hx => by
    simp only [List.mapM_cons, Option.bind_eq_bind, Option.pure_def] at h
    cases h1 : f a with
    | none => simp [h1] at h
    | some y =>
      cases h2 : l.mapM f with
      | none => simp [h1, h2] at h
      | some q =>
        simp [h1, h2] at h
        subst h
        cases j with
        | zero => simp at hx; subst hx; exact ⟨y, h1, by simp⟩
        | succ j => simpa using mapM_get f l q h2 j x (by simpa using hx)

theorem oBuild_ok (hE : EnvOk P E) (hw : WRel E R h W) (hT : TR R T a.tmps) {t : TypeId} {parts : Array (Nat × Operand)} {r : OR} (hr : oBuild E T t parts.toList h = some r) :
    OpSat P E R h W (do pure (.value (← Instr.build t (parts.map fun (i, x) => (i, a.eval x))))) r := by
  unfold oBuild at hr
  split at hr
  · rename_i i hi
    have hti := hE.ti t i hi
    obtain ⟨f, hf, hfs, hfb, hfz⟩ := hti.info
    split at hr
    · rename_i ps hps
      have hpr := parts_rel hT hps
      split at hr
      · rename_i z hz
        obtain ⟨zv, hzv, hzz, _, hzl, _⟩ := hfz z hz
        have hzr := ofVs_rel (R := R) hzz
        have hpl : (parts.map fun (i, x) => (i, a.eval x)).toList = parts.toList.map fun (i, x) => (i, a.eval x) := by simp
        split at hr
        · rename_i fs hd
          split at hr
          · rename_i l hl
            simp only [Option.some.injEq] at hr; subst hr
            obtain ⟨places, hpls⟩ := hti.fields fs hd
            obtain ⟨l', hfill, hlr⟩ := fill_rel (R := R) (placeS E fs.toList) (places.toArray[·]?) (fun j q hq => by
              unfold placeS at hq
              split at hq
              · rename_i fl hfl
                split at hq
                · rename_i fi hfi
                  simp only [Option.some.injEq] at hq; subst hq
                  rw [nth_eq] at hfl
                  obtain ⟨y, hy, hyp⟩ := mapM_get _ _ _ hpls j fl hfl
                  obtain ⟨g, hg, hgs, _⟩ := (hE.ti _ _ hfi).info
                  rw [hg] at hy
                  simp only [Option.map_some, Option.some.injEq] at hy
                  subst hy
                  rw [hgs] at hyp
                  simpa using hyp
                · cases hq
              · cases hq) ps _ z l zv.cells hpr hzr hl
            refine .same hw (run_v (run_build W t _ l' ?_)) ?_
            · unfold Program.built
              simp only [hf, hti.u, hd, hzv, hpls, hpl]
              exact hfill
            · cases l'; exact .agg _ _ hlr
          · cases hr
        · rename_i n e hd
          split at hr
          · rename_i ei hei
            split at hr
            · rename_i l hl
              simp only [Option.some.injEq] at hr; subst hr
              obtain ⟨g, hg, hgs, _⟩ := (hE.ti _ _ hei).info
              obtain ⟨l', hfill, hlr⟩ := fill_rel (R := R) (fun j => some (j * ei.size, ei.size)) (fun j => some (j * ei.size, ei.size)) (fun j q hq => hq) ps _ z l zv.cells hpr hzr hl
              refine .same hw (run_v (run_build W t _ l' ?_)) ?_
              · unfold Program.built
                simp only [hf, hti.u, hd, hzv, hpl, hg, hgs]
                exact hfill
              · cases l'; exact .agg _ _ hlr
            · cases hr
          · cases hr
        · cases hr
      · cases hr
    · cases hr
  · cases hr

/-! ### operations that make memory -/
/-- the block that is made, and the value that names it -/
def NewSat (P : Program) (E : Env) (R : RM) (W : World) (s : Sem Next) (blk : AB) (mk : Nat → AV) : Prop :=
  ∃ o r v', s.run P W = .ok (.value v') (W.alloc o) ∧ r.blk = W.heap.size ∧ (∀ R', RM.le R R' → BR E R' (W.alloc o) r blk) ∧ ∀ (R' : RM) id, R' id = some r → VR R' (mk id) v'

theorem run_newRow (t : TypeId) (c : Array Value) : (newRow t c).run P W = .ok ⟨W.heap.size, 0, none⟩ (W.alloc (.cells c t)) := by
  unfold newRow; simp

theorem NewSat.row {s : Sem Next} {l : List AV} {l' : List Value} {t : TypeId} {i : TI} (hx : VRs R l l') (hi : E.ti t = some i) {v' : Value} {mk : Nat → AV}
    (hs : s.run P W = .ok (.value v') (W.alloc (.cells ⟨l'⟩ t)))
    (hv : ∀ (R' : RM) id, R' id = some ⟨W.heap.size, 0, l.length, l'.length, i.size⟩ → VR R' (mk id) v') : NewSat P E R W s (ownL l t) mk := by
  refine ⟨_, ⟨W.heap.size, 0, l.length, l'.length, i.size⟩, v', hs, rfl, fun R' hle => ?_, hv⟩
  have := BR_new (E := E) (R := R') W (ex := []) (hx.mono hle) hi t
  simpa using this

theorem nAlloc_ok (hE : EnvOk P E) {t : TypeId} {blk : AB} {mk : Nat → AV} (hr : nAlloc E t = some (blk, mk)) :
    NewSat P E R W (do pure (.value (← Instr.alloc t true (.tuple #[])))) blk mk := by
  unfold nAlloc at hr
  split at hr
  · rename_i i hi
    have hti := hE.ti t i hi
    obtain ⟨f, hf, hfs, hfb, hfz⟩ := hti.info
    split at hr
    · rename_i z hz
      obtain ⟨zv, hzv, hzz, _, hzl, _⟩ := hfz z hz
      simp only [Option.some.injEq, Prod.mk.injEq] at hr
      obtain ⟨rfl, rfl⟩ := hr
      refine NewSat.row (ofVs_rel hzz) hi (v' := .pointer (some ⟨W.heap.size, 0, none⟩)) (run_v ?_) fun R' id hid => .ptr _ _ _ hid
      have hzrun : (zeroValue t).run P W = .ok zv W := by unfold zeroValue typeInfo; simp [hf, hzv]
      simp [Instr.alloc, hzrun, newVar, run_newRow]
    · cases hr
  · cases hr

theorem nBox_ok (hT : TR R T a.tmps) {t : TypeId} {x : Operand} {blk : AB} {mk : Nat → AV} (hr : nBox E T t x = some (blk, mk)) :
    NewSat P E R W (do pure (.value (← Instr.box t (a.eval x)))) blk mk := by
  unfold nBox at hr
  split at hr
  · rename_i v hv
    have hv' := eval_rel hT hv
    split at hr
    · split at hr
      · rename_i i hi
        simp only [Option.some.injEq, Prod.mk.injEq] at hr
        obtain ⟨rfl, rfl⟩ := hr
        refine NewSat.row hv'.cells hi (v' := .pointer (some ⟨W.heap.size, 0, none⟩)) (run_v ?_) fun R' id hid => .ptr _ _ _ hid
        simp [Instr.box, newVar, run_newRow]
      · cases hr
    · cases hr
  · cases hr

end
end Go.AE
