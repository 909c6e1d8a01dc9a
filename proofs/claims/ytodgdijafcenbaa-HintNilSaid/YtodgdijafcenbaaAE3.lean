import Derived.Test.YtodgdijafcenbaaAE2
namespace Go.AE

/-! ### writing -/
/-- cells one after the other -/
def setCells (W : World) (k o : Nat) : List Value → World
  | [] => W
  | v :: l => setCells (W.setCell ⟨k, o, none⟩ v) k (o + 1) l

theorem heap_setCell (W : World) (k o : Nat) (v : Value) (j : Nat) : (W.setCell ⟨k, o, none⟩ v).heap[j]? = if j = k then (match W.heap[k]? with
    | some (.cells c e fr) => some (.cells (c.setIfInBounds o v) e fr)
    | x => x) else W.heap[j]? := by
  simp only [World.setCell, Array.getElem?_modify]
  by_cases h : k = j
  · subst h
    simp only [if_true]
    cases W.heap[k]? with
    | none => rfl
    | some x => cases x <;> rfl
  · rw [if_neg h, if_neg (fun e => h e.symm)]

theorem setCells_same (l : List Value) : ∀ (W : World) (k o : Nat) (c : Array Value) (e : TypeId) (fr : Nat × Nat), W.heap[k]? = some (.cells c e fr) →
    ∃ c' : Array Value, (setCells W k o l).heap[k]? = some (.cells c' e fr) ∧ c'.size = c.size ∧
      (∀ i, (i < o ∨ o + l.length ≤ i) → c'[i]? = c[i]?) ∧ (o + l.length ≤ c.size → ∀ i, i < l.length → c'[o + i]? = l[i]?) := by
  induction l with
  | nil => intro W k o c e fr h; exact ⟨c, h, rfl, fun _ _ => rfl, fun _ i hi => absurd hi (by simp)⟩
  | cons v l ih =>
    intro W k o c e fr h
    have h1 : (W.setCell ⟨k, o, none⟩ v).heap[k]? = some (.cells (c.setIfInBounds o v) e fr) := by rw [heap_setCell, if_pos rfl, h]
    obtain ⟨c', hc', hs, ho, hn⟩ := ih _ k (o + 1) _ e fr h1
    refine ⟨c', hc', by simpa using hs, fun i hi => ?_, fun hle i hi => ?_⟩
    · simp only [List.length_cons] at hi
      rw [ho i (by omega), Array.getElem?_setIfInBounds]
      rw [if_neg (by omega)]
    · simp only [List.length_cons] at hle hi
      cases i with
      | zero =>
        rw [ho (o + 0) (by omega), Array.getElem?_setIfInBounds]
        simp
        omega
      | succ i =>
        have := hn (by simp; omega) i (by omega)
        rw [List.getElem?_cons_succ, ← this]
        congr 1; omega

theorem setCells_other (l : List Value) : ∀ (W : World) (k o j : Nat), j ≠ k → (setCells W k o l).heap[j]? = W.heap[j]? := by
  induction l with
  | nil => intro W k o j _; rfl
  | cons v l ih => intro W k o j h; rw [setCells, ih _ _ _ _ h, heap_setCell, if_neg h]

theorem setCells_size (l : List Value) : ∀ (W : World) (k o : Nat), (setCells W k o l).heap.size = W.heap.size := by
  induction l with
  | nil => intro W k o; rfl
  | cons v l ih => intro W k o; rw [setCells, ih]; simp
theorem setCells_os (l : List Value) : ∀ (W : World) (k o : Nat), (setCells W k o l).os = W.os ∧ (setCells W k o l).tape = W.tape ∧ (setCells W k o l).output = W.output := by
  induction l with
  | nil => intro W k o; exact ⟨rfl, rfl, rfl⟩
  | cons v l ih => intro W k o; exact ih _ _ _

theorem add_mk (k o i : Nat) : (⟨k, o, none⟩ : Addr).add i = ⟨k, o + i, none⟩ := by
  unfold Addr.add; split
  · rename_i h; subst h; rfl
  · rfl

theorem run_storeCells {P : Program} (l : List Value) : ∀ (W : World) (k o i : Nat) (c : Array Value) (e : TypeId) (fr : Nat × Nat), W.heap[k]? = some (.cells c e fr) →
    o + i + l.length ≤ c.size → (∀ j, o + i ≤ j → j < o + i + l.length → ¬ (fr.1 ≤ j ∧ j < fr.2)) → (∀ v ∈ l, Value.oneCell' v = true) →
    (storeCells ⟨k, o, none⟩ l i).run P W = .ok () (setCells W k (o + i) l) := by
  induction l with
  | nil => intro W k o i c e fr _ _ _ _; rfl
  | cons v l ih =>
    intro W k o i c e fr h hle hfr hone
    simp only [List.length_cons] at hle hfr
    have hcell : W.cell? ⟨k, o + i, none⟩ = some (c[o + i]'(by omega)) := by rw [cell_of h]; simp
    have hfz : W.frozen? ⟨k, o + i, none⟩ = false := by
      have := hfr (o + i) (by omega) (by omega)
      simp only [World.frozen?, h]
      simpa using this
    have h1 : (W.setCell ⟨k, o + i, none⟩ v).heap[k]? = some (.cells (c.setIfInBounds (o + i) v) e fr) := by rw [heap_setCell, if_pos rfl, h]
    have hrun : (store (⟨k, o + i, none⟩ : Addr) v).run P W = .ok () (W.setCell ⟨k, o + i, none⟩ v) := by
      have hv := hone v (by simp)
      cases v <;> first | (simp [Value.oneCell'] at hv; done) | (simp only [store, Sem.run, hcell, hfz]; rfl)
    have := ih (W.setCell ⟨k, o + i, none⟩ v) k o (i + 1) _ e fr h1 (by simp; omega) (fun j h1 h2 => hfr j (by omega) (by omega)) (fun w hw => hone w (by simp [hw]))
    simp only [storeCells, add_mk, Sem.run_bind, hrun, Result.andThen_ok]
    rw [this]
    rfl

theorem live_of_own {b : AB} (h : b.isOwn = true) : b.live = true := by cases b <;> simp_all [AB.isOwn, AB.live]

/-- a block that the write doesn't meet reads as it did -/
theorem BR_other {E : Env} {R R' : RM} {W W' : World} {r : Reg} {b : AB} (hle : RM.le R R') (h : BR E R W r b) (hk : W'.heap[r.blk]? = W.heap[r.blk]?) : BR E R' W' r b := by
  cases b with
  | own vs n t =>
    obtain ⟨h1, h2, h3, c, e, fr, hc, h4, h5, h6⟩ := h
    exact ⟨h1, h2, h3, c, e, fr, hk.trans hc, h4, h5, fun i v hi => let ⟨a, v', b, hv⟩ := h6 i v hi; ⟨a, v', b, hv.mono hle⟩⟩
  | ro vs es =>
    obtain ⟨h0, c, e, fr, hc, h6⟩ := h
    exact ⟨h0, c, e, fr, hk.trans hc, fun i v hi => let ⟨a, v', b, hv⟩ := h6 i v hi; ⟨a, v', b, hv.mono hle⟩⟩
  | mp es =>
    obtain ⟨h0, h0', es', clk, hc, h6⟩ := h
    exact ⟨h0, h0', es', clk, hk.trans hc, h6.mono hle⟩
  | dead => trivial

/-- cells of one block are written beside another block's cells -/
theorem BR_cells {E : Env} {R : RM} {W : World} {r : Reg} {b : AB} (h : BR E R W r b) (k o : Nat) (l : List Value) (hb : b.live = true)
    (ha : r.blk ≠ k ∨ r.off + r.room ≤ o ∨ o + l.length ≤ r.off) (hm : ∀ es, b = .mp es → r.blk ≠ k) : BR E R (setCells W k o l) r b := by
  by_cases hk : r.blk = k
  · subst hk
    have ha' := ha.resolve_left (by simp)
    cases b with
    | own vs n t =>
      obtain ⟨h1, h2, h3, c, e, fr, hc, h4, h5, h6⟩ := h
      obtain ⟨c', hc', hs, ho, _⟩ := setCells_same l W r.blk o c e fr hc
      refine ⟨h1, h2, h3, c', e, fr, hc', by omega, h5, fun i v hi => ?_⟩
      obtain ⟨a, v', hv', hv⟩ := h6 i v hi
      exact ⟨a, v', by rw [ho _ (by omega)]; exact hv', hv⟩
    | ro vs es =>
      obtain ⟨h0, c, e, fr, hc, h6⟩ := h
      obtain ⟨c', hc', hs, ho, _⟩ := setCells_same l W r.blk o c e fr hc
      refine ⟨h0, c', e, fr, hc', fun i v hi => ?_⟩
      obtain ⟨a, v', hv', hv⟩ := h6 i v hi
      exact ⟨a, v', by rw [ho _ (by omega)]; exact hv', hv⟩
    | mp es => exact absurd rfl (hm es rfl)
    | dead => trivial
  · exact BR_other (RM.le_refl R) h (setCells_other l W k o r.blk hk)

/-- two blocks that live are apart -/
theorem WRel.apart' {E : Env} {R : RM} {h : AH} {W : World} (a : WRel E R h W) {id id' : Nat} {r r' : Reg} {b b' : AB} (hne : id ≠ id') (hr : R id = some r) (hr' : R id' = some r')
    (hb : h.h.get id = some b) (hb' : h.h.get id' = some b') (ho : b.isOwn = true) (hl : b'.live = true) : r.blk ≠ r'.blk ∨ r.off + r.room ≤ r'.off ∨ r'.off + r'.room ≤ r.off :=
  a.apart id id' r r' b b' hne hr hr' hb hb' ho hl

/-- a map's block is no row of cells -/
theorem WRel.mp_ne {E : Env} {R : RM} {h : AH} {W : World} (a : WRel E R h W) {id id' : Nat} {r r' : Reg} {vs : PT AV} {n : Nat} {t : TypeId} {es : List (AV × AV)} (hr : R id = some r) (hr' : R id' = some r')
    (hb : h.h.get id = some (.own vs n t)) (hb' : h.h.get id' = some (.mp es)) : r'.blk ≠ r.blk := by
  intro e
  obtain ⟨_, _, _, c, e', fr, hc, _⟩ := a.blocks id r _ hr hb
  obtain ⟨_, _, es', clk, hm, _⟩ := a.blocks id' r' _ hr' hb'
  rw [e, hc] at hm
  cases hm

theorem wf_put {E : Env} {R : RM} {h : AH} {W : World} (a : WRel E R h W) {b : Nat} {x : AB} (hg : h.h.get b = some x) (y : AB) : ∀ id, (h.put b y).n ≤ id → (h.put b y).h.get id = none := by
  intro id hid
  have h1 := a.wf id hid
  simp only [AH.put, PT.get_set]
  rw [if_neg fun e => by rw [e, hg] at h1; cases h1]
  exact h1

theorem store_rel {P : Program} {E : Env} {R : RM} {h h' : AH} {W : World} (a : WRel E R h W) {b o : Nat} {xs : List AV} {xs' : List Value} {r : Reg} (hr : R b = some r)
    (hs : h.store b o xs = some h') (hx : VRs R xs xs') (ho : ∀ v ∈ xs', Value.oneCell' v = true) :
    (storeCells ⟨r.blk, r.off + o, none⟩ xs').run P W = .ok () (setCells W r.blk (r.off + o) xs') ∧ WRel E R h' (setCells W r.blk (r.off + o) xs') ∧
      ∀ n0, Ext n0 R h W R h' (setCells W r.blk (r.off + o) xs') := by
  unfold AH.store at hs
  split at hs
  · rename_i vs n t hg
    split at hs
    · rename_i hle
      simp only [Option.some.injEq] at hs
      subst hs
      have hle' : o + xs.length ≤ n := by simpa using hle
      have hlen := hx.length
      obtain ⟨h1, h2, h3, c, e, fr, hc, h4, h5, h6⟩ := a.blocks b r _ hr hg
      have hin : r.off + o + xs'.length ≤ c.size := by omega
      obtain ⟨c', hc', hsz, hold, hnew⟩ := setCells_same xs' W r.blk (r.off + o) c e fr hc
      obtain ⟨q1, q2, q3⟩ := setCells_os xs' W r.blk (r.off + o)
      refine ⟨?_, ⟨a.fresh, wf_put a hg _, fun id s hs => by rw [setCells_size]; exact a.lt id s hs, fun id s x hs hx' => ?_, fun id id' s s' x x' hne hs hs' hx hx' hox hlx => ?_⟩,
        fun n0 => ⟨RM.le_refl R, Nat.le_refl _, q1, q2, q3, by rw [setCells_size]; exact Nat.le_refl _, fun k _ hk => ?_, fun k hk => ?_, fun _ _ => rfl⟩⟩
      · have := run_storeCells (P := P) xs' W r.blk (r.off + o) 0 c e fr hc (by omega) (fun j h1 h2 => h5 j (by omega) (by omega)) ho
        simpa using this
      · simp only [AH.put, PT.get_set] at hx'
        by_cases hid : id = b
        · rw [if_pos hid] at hx'
          simp only [Option.some.injEq] at hx'
          subst hx'
          rw [hid, hr] at hs
          simp only [Option.some.injEq] at hs
          subst hs
          refine ⟨h1, h2, h3, c', e, fr, hc', by omega, h5, fun i v hi => ?_⟩
          rw [get_setN] at hi
          split at hi
          · rename_i hio
            obtain ⟨v', hv', hvr⟩ := hx.get hi
            have hlt : i - o < xs'.length := (List.getElem?_eq_some_iff.1 hv').1
            refine ⟨by omega, v', ?_, hvr⟩
            have := hnew hin (i - o) hlt
            rw [← hv', ← this]
            congr 1; omega
          · rename_i hio
            obtain ⟨ha, v', hv', hvr⟩ := h6 i v hi
            exact ⟨ha, v', by rw [hold _ (by omega)]; exact hv', hvr⟩
        · rw [if_neg hid] at hx'
          have hbr := a.blocks id s x hs hx'
          by_cases hlv : x.live = true
          · refine BR_cells hbr _ _ _ hlv ?_ ?_
            · have := a.apart b id r s _ x (fun e => hid e.symm) hr hs hg hx' rfl hlv
              omega
            · intro es hes
              subst hes
              exact a.mp_ne hr hs hg hx'
          · cases x <;> simp_all [AB.live]
            trivial
      · simp only [AH.put, PT.get_set] at hx hx'
        have hg' : ∀ y : Nat, ∀ z : AB, (if y = b then some (AB.own (setN vs o xs) n t) else h.h.get y) = some z → ∃ z', h.h.get y = some z' ∧ z'.isOwn = z.isOwn ∧ z'.live = z.live := by
          intro y z hz
          by_cases hy : y = b
          · subst hy
            rw [if_pos rfl] at hz
            simp only [Option.some.injEq] at hz
            subst hz
            exact ⟨_, hg, rfl, rfl⟩
          · rw [if_neg hy] at hz
            exact ⟨z, hz, rfl, rfl⟩
        obtain ⟨y, hy, hyo, _⟩ := hg' _ _ hx
        obtain ⟨y', hy', _, hyl⟩ := hg' _ _ hx'
        exact a.apart id id' s s' y y' hne hs hs' hy hy' (hyo.trans hox) (hyl.trans hlx)
      · refine setCells_other _ _ _ _ _ fun e => hk ⟨b, r, _, hr, hg, rfl, e.symm⟩
      · obtain ⟨id, s, x, hs, hx, hxo, hxk⟩ := hk
        simp only [AH.put, PT.get_set] at hx
        by_cases hy : id = b
        · subst hy
          exact .inl ⟨id, s, _, hs, hg, rfl, hxk⟩
        · rw [if_neg hy] at hx
          exact .inl ⟨id, s, x, hs, hx, hxo, hxk⟩
    · cases hs
  · cases hs

/-! ### new blocks -/
theorem heap_push_new (W : World) (o : Obj) : (W.alloc o).heap[W.heap.size]? = some o := by
  show (W.heap.push o)[W.heap.size]? = _
  simp
theorem heap_push_old (W : World) (o : Obj) (k : Nat) (h : k < W.heap.size) : (W.alloc o).heap[k]? = W.heap[k]? := by
  show (W.heap.push o)[k]? = _
  rw [Array.getElem?_push, if_neg (by omega)]

/-- a new block: h is the map with the block in it; the block may have lain there before (id is not yet in R) -/
theorem new_rel {E : Env} {R : RM} {h0 h : AH} {W : World} (a : WRel E R h0 W) {id : Nat} (hid : R id = none) (hlt : id < h.n) (hn : h0.n ≤ h.n)
    (hsame : ∀ k, k ≠ id → h.h.get k = h0.h.get k) {b : AB} (hb : h.h.get id = some b) (o : Obj) (r : Reg) (hrb : r.blk = W.heap.size)
    (hbr : ∀ R' : RM, RM.le R R' → BR E R' (W.alloc o) r b) :
    WRel E (R.upd id r) h (W.alloc o) ∧ ∀ n0, n0 ≤ id → Ext n0 R h0 W (R.upd id r) h (W.alloc o) := by
  have hle := RM.le_upd r hid
  refine ⟨⟨fun k hk => ?_, fun k hk => (hsame k (by omega)).trans (a.wf k (by omega)), fun k s hs => ?_, fun k s x hs hx => ?_, fun k k' s s' x x' hne hs hs' hx hx' ho hl => ?_⟩, fun n0 hn0 => ⟨hle, hn, rfl, rfl, rfl, by simp, fun k hk _ => heap_push_old _ _ _ hk, fun k hk => ?_, fun k hk => RM.upd_other _ _ (by omega)⟩⟩
  · rw [RM.upd_other _ _ (by omega)]
    exact a.fresh k (by omega)
  · by_cases e : k = id
    · subst e; rw [RM.upd_same] at hs; simp only [Option.some.injEq] at hs; subst hs; rw [hrb]; simp
    · rw [RM.upd_other _ _ e] at hs
      have := a.lt k s hs
      simp; omega
  · by_cases e : k = id
    · subst e
      rw [RM.upd_same] at hs; simp only [Option.some.injEq] at hs; subst hs
      rw [hb] at hx; simp only [Option.some.injEq] at hx; subst hx
      exact hbr _ hle
    · rw [RM.upd_other _ _ e] at hs
      rw [hsame k e] at hx
      exact BR_other hle (a.blocks k s x hs hx) (heap_push_old _ _ _ (a.lt k s hs))
  · by_cases e : k = id
    · have e' : k' ≠ id := fun q => hne (e.trans q.symm)
      subst e
      rw [RM.upd_same] at hs; simp only [Option.some.injEq] at hs; subst hs
      rw [RM.upd_other _ _ e'] at hs'
      have := a.lt k' s' hs'
      exact .inl (by omega)
    · rw [RM.upd_other _ _ e] at hs
      rw [hsame k e] at hx
      by_cases e' : k' = id
      · subst e'
        rw [RM.upd_same] at hs'; simp only [Option.some.injEq] at hs'; subst hs'
        have := a.lt k s hs
        exact .inl (by omega)
      · rw [RM.upd_other _ _ e'] at hs'
        rw [hsame k' e'] at hx'
        exact a.apart k k' s s' x x' hne hs hs' hx hx' ho hl
  · obtain ⟨j, s, x, hs, hx, hxo, hxk⟩ := hk
    by_cases e : j = id
    · subst e; rw [RM.upd_same] at hs; simp only [Option.some.injEq] at hs; subst hs; exact .inr (by omega)
    · rw [RM.upd_other _ _ e] at hs
      rw [hsame j e] at hx
      exact .inl ⟨j, s, x, hs, hx, hxo, hxk⟩

/-- the cells of a new row -/
theorem BR_new {E : Env} {R : RM} (W : World) {l : List AV} {l' ex : List Value} {t : TypeId} {i : TI} (hx : VRs R l l') (hi : E.ti t = some i) (e : TypeId) :
    BR E R (W.alloc (.cells ⟨l' ++ ex⟩ e)) ⟨W.heap.size, 0, l.length, (l' ++ ex).length, i.size⟩ (ownL l t) := by
  have hlen := hx.length
  refine ⟨rfl, by simp; omega, ⟨i, hi, rfl⟩, ⟨l' ++ ex⟩, e, (0, 0), heap_push_new _ _, by simp, fun _ _ _ h => by simp at h, fun j v hj => ?_⟩
  rw [get_setN] at hj
  split at hj
  · rename_i hjl
    obtain ⟨v', hv', hv⟩ := hx.get hj
    have : j - 0 < l'.length := (List.getElem?_eq_some_iff.1 hv').1
    refine ⟨by omega, v', ?_, hv⟩
    simp only [Nat.sub_zero] at hv' this
    simp [hv', List.getElem?_append_left this]
  · simp [PT.get] at hj

theorem BR_newMap {E : Env} {R : RM} (W : World) : BR E R (W.alloc (.map #[] 0)) ⟨W.heap.size, 0, 0, 1, 1⟩ (.mp []) :=
  ⟨rfl, rfl, [], 0, heap_push_new _ _, .nil⟩

theorem get_new_same (h : AH) (b : AB) : (h.new b).h.get h.n = some b := by simp [AH.new, PT.get_set]
theorem get_new_other (h : AH) (b : AB) (k : Nat) (hk : k ≠ h.n) : (h.new b).h.get k = h.h.get k := by simp [AH.new, PT.get_set, hk]
theorem get_put_same (h : AH) (i : Nat) (b : AB) : (h.put i b).h.get i = some b := by simp [AH.put, PT.get_set]
theorem get_put_other (h : AH) (i : Nat) (b : AB) (k : Nat) (hk : k ≠ i) : (h.put i b).h.get k = h.h.get k := by simp [AH.put, PT.get_set, hk]

/-- a block is let go -/
theorem dead_rel {E : Env} {R : RM} {h : AH} {W : World} (a : WRel E R h W) {b : Nat} {y : AB} (hg : h.h.get b = some y) : WRel E R (h.put b .dead) W := by
  have key : ∀ k x, (h.put b .dead).h.get k = some x → (x.live = true → h.h.get k = some x) := by
    intro k x hx hl
    by_cases e : k = b
    · subst e; rw [get_put_same] at hx; simp only [Option.some.injEq] at hx; subst hx; simp [AB.live] at hl
    · rw [get_put_other _ _ _ _ e] at hx; exact hx
  refine ⟨a.fresh, wf_put a hg _, a.lt, fun k s x hs hx => ?_, fun k k' s s' x x' hne hs hs' hx hx' ho hl => a.apart k k' s s' x x' hne hs hs' (key k x hx (live_of_own ho)) (key k' x' hx' hl) ho hl⟩
  by_cases hl : x.live = true
  · exact a.blocks k s x hs (key k x hx hl)
  · cases x <;> simp_all [AB.live]
    trivial

/-- what is appended in place: the old block is let go; the new one lies where it lay -/
theorem grow_rel {P : Program} {E : Env} {R : RM} {h : AH} {W : World} (a : WRel E R h W) {b o : Nat} {r : Reg} (hr : R b = some r) {vs : PT AV} {m : Nat} {t : TypeId}
    (hg : h.h.get b = some (.own vs m t)) {old xs : List AV} {xs' : List Value} (hold : getN vs o old.length = some old) (hx : VRs R xs xs') (ho : ∀ v ∈ xs', Value.oneCell' v = true)
    (hroom : o + old.length + xs.length ≤ r.room) :
    (storeCells ⟨r.blk, r.off + o + old.length, none⟩ xs').run P W = .ok () (setCells W r.blk (r.off + o + old.length) xs') ∧
    WRel E (R.upd h.n ⟨r.blk, r.off + o, old.length + xs.length, r.room - o, r.es⟩) ((h.put b .dead).new (ownL (old ++ xs) t)) (setCells W r.blk (r.off + o + old.length) xs') ∧
      ∀ n0, n0 ≤ h.n → Ext n0 R h W (R.upd h.n ⟨r.blk, r.off + o, old.length + xs.length, r.room - o, r.es⟩) ((h.put b .dead).new (ownL (old ++ xs) t)) (setCells W r.blk (r.off + o + old.length) xs') := by
  have hfresh := a.fresh h.n (Nat.le_refl _)
  have hbn : b ≠ h.n := fun e => by rw [e, hfresh] at hr; cases hr
  have hle := RM.le_upd (⟨r.blk, r.off + o, old.length + xs.length, r.room - o, r.es⟩ : Reg) hfresh
  have hlen := hx.length
  obtain ⟨h1, h2, h3, c, e, fr, hc, h4, h5, h6⟩ := a.blocks b r _ hr hg
  obtain ⟨c', hc', hsz, hc0, hc1⟩ := setCells_same xs' W r.blk (r.off + o + old.length) c e fr hc
  have hin : r.off + o + old.length + xs'.length ≤ c.size := by omega
  obtain ⟨q1, q2, q3⟩ := setCells_os xs' W r.blk (r.off + o + old.length)
  obtain ⟨_, hgo⟩ := getN_spec _ _ _ _ hold
  have hget : ∀ k x, ((h.put b .dead).new (ownL (old ++ xs) t)).h.get k = some x → x.live = true → (k = h.n ∧ x = ownL (old ++ xs) t) ∨ (k ≠ h.n ∧ k ≠ b ∧ h.h.get k = some x) := by
    intro k x hk hl
    by_cases e1 : k = h.n
    · subst e1
      have := get_new_same (h.put b .dead) (ownL (old ++ xs) t)
      rw [show (h.put b .dead).n = h.n from rfl] at this
      rw [this] at hk
      simp only [Option.some.injEq] at hk
      exact .inl ⟨rfl, hk.symm⟩
    · rw [get_new_other (h.put b .dead) _ _ e1] at hk
      by_cases e2 : k = b
      · subst e2; rw [get_put_same] at hk; simp only [Option.some.injEq] at hk; subst hk; simp [AB.live] at hl
      · rw [get_put_other _ _ _ _ e2] at hk; exact .inr ⟨e1, e2, hk⟩
  have hwf : ∀ k, ((h.put b .dead).new (ownL (old ++ xs) t)).n ≤ k → ((h.put b .dead).new (ownL (old ++ xs) t)).h.get k = none := by
    intro k hk
    have hk' : h.n + 1 ≤ k := hk
    have h1 := a.wf k (by omega)
    rw [get_new_other (h.put b .dead) _ k (by show k ≠ h.n; omega), get_put_other _ _ _ _ (fun e => by rw [e, hg] at h1; cases h1)]
    exact h1
  refine ⟨?_, ⟨fun k hk => ?_, hwf, fun k s hs => ?_, fun k s x hs hx' => ?_, fun k k' s s' x x' hne hs hs' hx hx' hox hlx => ?_⟩,
    fun n0 hn0 => ⟨hle, Nat.le_succ _, q1, q2, q3, by rw [setCells_size]; exact Nat.le_refl _, fun k _ hk => ?_, fun k hk => ?_, fun k hk => RM.upd_other _ _ (by omega)⟩⟩
  · have := run_storeCells (P := P) xs' W r.blk (r.off + o + old.length) 0 c e fr hc (by omega) (fun j h1 h2 => h5 j (by omega) (by omega)) ho
    simpa using this
  · have hk' : h.n + 1 ≤ k := hk
    rw [RM.upd_other _ _ (by omega)]; exact a.fresh k (by omega)
  · rw [setCells_size]
    by_cases e1 : k = h.n
    · subst e1; rw [RM.upd_same] at hs; simp only [Option.some.injEq] at hs; subst hs; exact a.lt b r hr
    · rw [RM.upd_other _ _ e1] at hs; exact a.lt k s hs
  · by_cases hl : x.live = true
    · rcases hget k x hx' hl with ⟨e1, e2⟩ | ⟨e1, e2, e3⟩
      · subst e1
        rw [RM.upd_same] at hs; simp only [Option.some.injEq] at hs; subst hs; subst e2
        refine ⟨by simp, by simp; omega, h3, c', e, fr, hc', by simp; omega, fun i hi1 hi2 => h5 i (by simp at hi1; omega) (by simp at hi2; omega), fun i v hi => ?_⟩
        rw [get_setN] at hi
        split at hi
        · rename_i hil
          simp only [Nat.sub_zero, List.length_append] at hi hil
          refine ⟨by simp; omega, ?_⟩
          by_cases hio : i < old.length
          · rw [List.getElem?_append_left hio] at hi
            have := hgo i hio
            rw [hi] at this
            obtain ⟨_, v', hv', hv⟩ := h6 _ _ this
            refine ⟨v', ?_, hv.mono hle⟩
            show c'[r.off + o + i]? = some v'
            rw [hc0 _ (by omega)]
            rw [← hv']; congr 1; omega
          · rw [List.getElem?_append_right (by omega)] at hi
            obtain ⟨v', hv', hv⟩ := hx.get hi
            refine ⟨v', ?_, hv.mono hle⟩
            show c'[r.off + o + i]? = some v'
            have := hc1 hin (i - old.length) (by omega)
            rw [← hv', ← this]; congr 1; omega
        · simp [PT.get] at hi
      · rw [RM.upd_other _ _ e1] at hs
        have hbr := a.blocks k s x hs e3
        refine (fun (q : BR E R (setCells W r.blk (r.off + o + old.length) xs') s x) => BR_other hle q rfl) (BR_cells hbr _ _ _ hl ?_ ?_)
        · have := a.apart b k r s _ x (fun e => e2 e.symm) hr hs hg e3 rfl hl
          omega
        · intro es hes
          subst hes
          exact a.mp_ne hr hs hg e3
    · cases x <;> simp_all [AB.live]
      trivial
  · rcases hget k x hx (live_of_own hox) with ⟨e1, e2⟩ | ⟨e1, e2, e3⟩
    · subst e1
      rw [RM.upd_same] at hs; simp only [Option.some.injEq] at hs; subst hs
      rcases hget k' x' hx' hlx with ⟨f1, f2⟩ | ⟨f1, f2, f3⟩
      · exact absurd f1.symm hne
      · rw [RM.upd_other _ _ f1] at hs'
        have := a.apart b k' r s' _ x' (fun e => f2 e.symm) hr hs' hg f3 rfl hlx
        simp only; omega
    · rw [RM.upd_other _ _ e1] at hs
      rcases hget k' x' hx' hlx with ⟨f1, f2⟩ | ⟨f1, f2, f3⟩
      · subst f1
        rw [RM.upd_same] at hs'; simp only [Option.some.injEq] at hs'; subst hs'
        have := a.apart k b s r x _ e2 hs hr e3 hg hox rfl
        simp only; omega
      · rw [RM.upd_other _ _ f1] at hs'
        exact a.apart k k' s s' x x' hne hs hs' e3 f3 hox hlx
  · exact setCells_other _ _ _ _ _ fun e => hk ⟨b, r, _, hr, hg, rfl, e.symm⟩
  · obtain ⟨j, s, x, hs, hx, hxo, hxk⟩ := hk
    rcases hget j x hx (live_of_own hxo) with ⟨e1, e2⟩ | ⟨e1, e2, e3⟩
    · subst e1
      rw [RM.upd_same] at hs; simp only [Option.some.injEq] at hs; subst hs
      exact .inl ⟨b, r, _, hr, hg, rfl, hxk⟩
    · rw [RM.upd_other _ _ e1] at hs
      exact .inl ⟨j, s, x, hs, e3, hxo, hxk⟩

/-- a map is written -/
theorem mp_rel {E : Env} {R : RM} {h : AH} {W : World} (a : WRel E R h W) {b : Nat} {r : Reg} (hr : R b = some r) {es es2 : List (AV × AV)} (hg : h.h.get b = some (.mp es))
    {es' : List MapEntry} {clk : Nat} (hm : MR R es2 es') :
    WRel E R (h.put b (.mp es2)) { W with heap := W.heap.setIfInBounds r.blk (.map ⟨es'⟩ clk) } ∧
      ∀ n0, Ext n0 R h W R (h.put b (.mp es2)) { W with heap := W.heap.setIfInBounds r.blk (.map ⟨es'⟩ clk) } := by
  have hlt := a.lt b r hr
  obtain ⟨o0, o1, es0, clk0, hc0, _⟩ := a.blocks b r _ hr hg
  have hget : ∀ k x, (h.put b (.mp es2)).h.get k = some x → (k = b ∧ x = .mp es2) ∨ (k ≠ b ∧ h.h.get k = some x) := by
    intro k x hk
    by_cases e : k = b
    · subst e; rw [get_put_same] at hk; simp only [Option.some.injEq] at hk; exact .inl ⟨rfl, hk.symm⟩
    · rw [get_put_other _ _ _ _ e] at hk; exact .inr ⟨e, hk⟩
  have hold : ∀ k x, (h.put b (.mp es2)).h.get k = some x → ∃ y, h.h.get k = some y ∧ y.isOwn = x.isOwn ∧ y.live = x.live := by
    intro k x hk
    rcases hget k x hk with ⟨e1, e2⟩ | ⟨e1, e2⟩
    · subst e1; subst e2; exact ⟨_, hg, rfl, rfl⟩
    · exact ⟨x, e2, rfl, rfl⟩
  refine ⟨⟨a.fresh, wf_put a hg _, fun k s hs => by simpa using a.lt k s hs, fun k s x hs hx => ?_, fun k k' s s' x x' hne hs hs' hx hx' ho hl => ?_⟩,
    fun n0 => ⟨RM.le_refl R, Nat.le_refl _, rfl, rfl, rfl, by simp, fun k hk hn => ?_, fun k hk => ?_, fun _ _ => rfl⟩⟩
  · rcases hget k x hx with ⟨e1, e2⟩ | ⟨e1, e2⟩
    · subst e1; subst e2
      rw [hr] at hs; simp only [Option.some.injEq] at hs; subst hs
      exact ⟨o0, o1, es', clk, by simp [hlt], hm⟩
    · have hbr := a.blocks k s x hs e2
      by_cases hl : x.live = true
      · refine BR_other (RM.le_refl R) hbr ?_
        have hne : r.blk ≠ s.blk := by
          intro e
          have hap := a.apart b k r s _ x (fun q => e1 q.symm) hr hs hg e2 rfl hl
          cases x with
          | own vs n t => obtain ⟨_, _, _, c, e', fr, hc, _⟩ := hbr; rw [← e, hc0] at hc; cases hc
          | ro vs es => obtain ⟨_, c, e', fr, hc, _⟩ := hbr; rw [← e, hc0] at hc; cases hc
          | mp es => obtain ⟨h0, h1, _⟩ := hbr; omega
          | dead => simp [AB.live] at hl
        show (W.heap.setIfInBounds r.blk _)[s.blk]? = _
        rw [Array.getElem?_setIfInBounds, if_neg hne]
      · cases x <;> simp_all [AB.live]
        trivial
  · obtain ⟨y, hy, hyo, _⟩ := hold _ _ hx
    obtain ⟨y', hy', _, hyl⟩ := hold _ _ hx'
    exact a.apart k k' s s' y y' hne hs hs' hy hy' (hyo.trans ho) (hyl.trans hl)
  · show (W.heap.setIfInBounds r.blk _)[k]? = _
    rw [Array.getElem?_setIfInBounds, if_neg fun e => hn ⟨b, r, _, hr, hg, rfl, e⟩]
  · obtain ⟨j, s, x, hs, hx, hxo, hxk⟩ := hk
    obtain ⟨y, hy, hyo, _⟩ := hold _ _ hx
    exact .inl ⟨j, s, y, hs, hy, hyo.trans hxo, hxk⟩

end Go.AE
