import Derived.Test.YtodgdijafcenbaaAE12
namespace Go.AE
section
variable {P : Program} {E : Env} {R : RM} {h : AH} {W : World} {T : PT AV} {a : Act}

theorem growBy_le (need : Nat) : ∀ (n c : Nat), c < need → Builtin.growBy need n c ≤ 2 * need + 192
  | 0, c, h => by simp only [Builtin.growBy]; omega
  | n + 1, c, h => by
    simp only [Builtin.growBy]
    rw [if_neg (by omega)]
    by_cases h2 : c + (c + 768) / 4 < need
    · exact growBy_le need n _ h2
    · cases n with
      | zero => simp only [Builtin.growBy]; omega
      | succ n => simp only [Builtin.growBy]; rw [if_pos (by omega)]; omega

theorem nextcap_le (need c : Nat) (h : c < need) : Builtin.nextslicecap need c ≤ 2 * need + 192 := by
  unfold Builtin.nextslicecap
  split
  · omega
  · split
    · omega
    · exact growBy_le need 4 c h

theorem room_spec {need bytes : Nat} (h : room need bytes = true) : (2 * need + 192) * bytes ≤ 281474976710656 ∧ need ≤ 4611686018427387904 := by
  unfold room at h
  simp only [Bool.and_eq_true, Nat.ble_eq] at h
  exact h

theorem cells_heap {W W' : World} (hh : W'.heap = W.heap) (ad : Addr) : W'.cell? ad = W.cell? ad := by simp [World.cell?, hh]

/-- what is appended, there: its elements, its cells -/
def NewOk (P : Program) (W : World) (zeros : Bool) (ei : TI) (zv : Value) (x' : Value) (n : Nat) (l' : List Value) : Prop :=
  match zeros with
  | true => ∃ k, x' = .int k (n : Int) ∧ n ≤ 1073741824 ∧ n * ei.bytes ≤ 281474976710656 ∧ l' = rep n zv.cells.toList
  | false => (∀ W', (Builtin.lenOf x').run P W' = .ok n W') ∧ ∀ W' : World, W'.heap = W.heap → (Builtin.firstCells ei.size n x').run P W' = .ok ⟨l'⟩ W'

theorem newOf_ok (hw : WRel E R h W) {zeros : Bool} {ei : TI} {zv : Value} {z : List AV} (hz : ei.zero = some z) (hzr : VRs R z zv.cells.toList) {x : AV} {x' : Value} (hx : VR R x x') {n : Nat} {l : List AV}
    (hn : newOf E zeros ei x h = some (n, l)) : ∃ l', VRs R l l' ∧ l'.length = n * ei.size ∧ NewOk P W zeros ei zv x' n l' ∨ ¬ z.length = ei.size := by
  by_cases hzl : z.length = ei.size
  · refine Exists.imp (fun l' hl => Or.inl hl) ?_
    unfold newOf at hn
    split at hn
    · rename_i k m
      rw [hz] at hn
      simp only at hn
      split at hn
      · rename_i hb
        simp only [Bool.and_eq_true, Nat.ble_eq] at hb
        simp only [Option.some.injEq, Prod.mk.injEq] at hn
        obtain ⟨rfl, rfl⟩ := hn
        refine ⟨rep m zv.cells.toList, hzr.rep m, by rw [rep_length, ← hzr.length, hzl], k, ofNat_int hx, hb.1, hb.2, rfl⟩
      · cases hn
    · simp only [Option.some.injEq, Prod.mk.injEq] at hn
      obtain ⟨rfl, rfl⟩ := hn
      rw [hx.inv_nils]
      exact ⟨[], .nil, by simp, fun _ => rfl, fun _ _ => rfl⟩
    · rename_i bs
      split at hn
      · rename_i h1
        simp only [Option.some.injEq, Prod.mk.injEq] at hn
        obtain ⟨rfl, rfl⟩ := hn
        obtain ⟨s, hs, he⟩ := hx.inv_str
        subst he
        have hsz : s.size = bs.length := by rw [← hs]; simp
        refine ⟨bs.map fun (b : UInt8) => Value.int .u8 b.toNat, ofBytes_rel _, by simp [h1], fun W' => ?_, fun W' _ => ?_⟩
        · simp [Builtin.lenOf, hsz]
        · simp only [Builtin.firstCells, Sem.run_pure]
          congr 1
          apply Array.toList_inj.1
          simp only [Array.toList_map]
          rw [extract_bytes, hs]
          simp
      · cases hn
    · rename_i b o m c
      split at hn
      · rename_i cs hcs
        simp only [Option.some.injEq, Prod.mk.injEq] at hn
        obtain ⟨rfl, rfl⟩ := hn
        obtain ⟨r, ad, c', hrb, he, _, hor⟩ := hx.inv_slc
        subst he
        obtain ⟨l', hlr, hlen, hcell⟩ := loadN_rel hw hrb hcs
        refine ⟨l', hlr, hlen, fun W' => rfl, fun W' hh => ?_⟩
        rcases hor with ⟨h0, _, _⟩ | ⟨ha, _⟩
        · subst h0
          have : l' = [] := List.eq_nil_of_length_eq_zero (by simpa using hlen)
          subst this
          simp [Builtin.firstCells, loadCells, loadCellsFrom]
        · subst ha
          have := run_loadCells_list (P := P) W' ⟨r.blk, r.off + o, none⟩ l' (fun j v hj => by rw [add_mk, cells_heap hh]; exact hcell j v hj)
          rw [hlen] at this
          simpa [Builtin.firstCells] using this
      · cases hn
    · cases hn
  · exact ⟨[], .inr hzl⟩

/-- what the second argument's type says -/
def ZerosOk (P : Program) (argTypes : Array TypeId) (zeros : Bool) : Prop :=
  (argTypes[1]? = none ∧ zeros = false) ∨ ∃ xt xi, argTypes[1]? = some xt ∧ TIOk P xt xi ∧ zeros = (match xi.d with | .int _ => true | _ => false)

theorem appZeros_ok (hE : EnvOk P E) {argTypes : Array TypeId} {zeros : Bool} (hz : appZeros E argTypes = some zeros) : ZerosOk P argTypes zeros := by
  unfold appZeros at hz
  split at hz
  · rename_i xt hxt
    split at hz
    · rename_i xi hxi
      refine .inr ⟨xt, xi, hxt, hE.ti _ _ hxi, ?_⟩
      split at hz
      · rename_i hd; simp only [Option.some.injEq] at hz; rw [hd]; exact hz.symm
      · rename_i hd; simp only [Option.some.injEq] at hz; rw [← hz]; cases hxd : xi.d <;> first | rfl | (exact absurd hxd (hd _))
    · cases hz
  · rename_i hxt
    simp only [Option.some.injEq] at hz
    exact .inl ⟨hxt, hz.symm⟩

structure AppH (P : Program) (argTypes : Array TypeId) (e : TypeId) (ei : TI) (f : TypeInfo) (zval : Value) (zeros : Bool) : Prop where
  ht : ∃ st si, argTypes[0]? = some st ∧ TIOk P st si ∧ si.d = .slice e
  te : TIOk P e ei
  hf : P.info? e = some f
  fb : f.bytes = ei.bytes
  hzv : f.zero = some zval
  zl : zval.cells.toList.length = ei.size
  z : ZerosOk P argTypes zeros

theorem zeroCells_eq (zv : Value) (m : Nat) : Builtin.zeroCells zv.cells m = ⟨rep m zv.cells.toList⟩ := by
  unfold Builtin.zeroCells
  have := zeros_eq zv.cells.toList m
  simpa using this

theorem rep_nil_of {n size : Nat} {l : List Value} (hl : l.length = size) (h : n * size = 0) : rep n l = [] := List.eq_nil_of_length_eq_zero (by rw [rep_length, hl, h])

set_option maxHeartbeats 4000000 in
theorem append_room {argTypes : Array TypeId} {e : TypeId} {ei : TI} {f : TypeInfo} {zv : Value} {zeros : Bool} (H : AppH P argTypes e ei f zv zeros) (ty : TypeId) {ad : Addr} {sLen sCap n : Nat} {x : Value} {l' : List Value}
    (hn : NewOk P W zeros ei zv x n l') (hle : sLen + n ≤ sCap) {W' : World} (hst : (storeCells (ad.add (sLen * ei.size)) l').run P W = .ok () W') :
    (Builtin.append_ argTypes ty #[.slice (some ad) sLen sCap, x]).run P W = .ok (.slice (some ad) (sLen + n) sCap) W' := by
  obtain ⟨⟨st, si, h0, hts, hd⟩, hte, hf, hfb, hzv, hzl, hz⟩ := H
  have hirun : ∀ W', (typeInfo e).run P W' = .ok f W' := fun W' => by unfold typeInfo; simp [hf]
  have hzrun : ∀ W', (zeroValue e).run P W' = .ok zv W' := fun W' => by unfold zeroValue typeInfo; simp [hf, hzv]
  have hsrun : ∀ W', (sizeOf e).run P W' = .ok ei.size W' := fun W' => hte.runSize
  have key : ∀ (hzf : zeros = false), (Builtin.lenOf x).run P W = .ok n W ∧ (Builtin.firstCells ei.size n x).run P W = .ok ⟨l'⟩ W := by
    intro hzf; subst hzf; exact ⟨hn.1 W, hn.2 W rfl⟩
  rcases hz with ⟨h1, rfl⟩ | ⟨xt, xi, h1, htx, rfl⟩
  · obtain ⟨k1, k2⟩ := key rfl
    simp [Builtin.append_, h0, h1, hts.runU, hd, hsrun, k1, k2, hle, hst]
  · cases hxd : xi.d
    case int k =>
      rw [hxd] at hn
      obtain ⟨kk, rfl, hb1, hb2, rfl⟩ := hn
      have hw1 : IntKind.i64.wrap (n : Int) = (n : Int) := i64_wrap n (by omega)
      have hbig : ¬ ((281474976710656 : Int) < (n : Int) * (f.bytes : Int)) := by
        rw [hfb]
        have e := Int.natCast_mul n ei.bytes
        generalize n * ei.bytes = m at hb2 e
        rw [← e]; omega
      have hneg : ¬ ((n : Int) < 0) := by omega
      by_cases hz0 : n * ei.size = 0
      · rw [rep_nil_of hzl hz0] at hst
        simp [Builtin.append_, h0, h1, hts.runU, hd, hsrun, htx.runU, hxd, asInt, asIntOf, hw1, hneg, hirun, hbig, hle, hz0, hst]
      · simp [Builtin.append_, h0, h1, hts.runU, hd, hsrun, htx.runU, hxd, asInt, asIntOf, hw1, hneg, hirun, hbig, hle, hz0, hzrun, zeroCells_eq, hst]
    all_goals
      obtain ⟨k1, k2⟩ := key (by rw [hxd])
      simp [Builtin.append_, h0, h1, hts.runU, hd, hsrun, htx.runU, hxd, k1, k2, hle, hst]

set_option maxHeartbeats 4000000 in
theorem append_nil0 {argTypes : Array TypeId} {e : TypeId} {ei : TI} {f : TypeInfo} {zv : Value} {zeros : Bool} (H : AppH P argTypes e ei f zv zeros) (ty : TypeId) {x : Value} {l' : List Value}
    (hn : NewOk P W zeros ei zv x 0 l') : (Builtin.append_ argTypes ty #[.slice none 0 0, x]).run P W = .ok (.slice none 0 0) W := by
  obtain ⟨⟨st, si, h0, hts, hd⟩, hte, hf, hfb, hzv, hzl, hz⟩ := H
  have hirun : ∀ W', (typeInfo e).run P W' = .ok f W' := fun W' => by unfold typeInfo; simp [hf]
  have hzrun : ∀ W', (zeroValue e).run P W' = .ok zv W' := fun W' => by unfold zeroValue typeInfo; simp [hf, hzv]
  have hsrun : ∀ W', (sizeOf e).run P W' = .ok ei.size W' := fun W' => hte.runSize
  have key : ∀ (hzf : zeros = false), (Builtin.lenOf x).run P W = .ok 0 W ∧ (Builtin.firstCells ei.size 0 x).run P W = .ok ⟨l'⟩ W := by
    intro hzf; subst hzf; exact ⟨hn.1 W, hn.2 W rfl⟩
  rcases hz with ⟨h1, rfl⟩ | ⟨xt, xi, h1, htx, rfl⟩
  · obtain ⟨k1, k2⟩ := key rfl
    simp [Builtin.append_, h0, h1, hts.runU, hd, hsrun, k1, k2]
  · cases hxd : xi.d
    case int k =>
      rw [hxd] at hn
      obtain ⟨kk, rfl, hb1, hb2, rfl⟩ := hn
      have hw1 : IntKind.i64.wrap 0 = 0 := i64_wrap 0 (by omega)
      simp [Builtin.append_, h0, h1, hts.runU, hd, hsrun, htx.runU, hxd, asInt, asIntOf, hw1, hirun]
    all_goals
      obtain ⟨k1, k2⟩ := key (by rw [hxd])
      simp [Builtin.append_, h0, h1, hts.runU, hd, hsrun, htx.runU, hxd, k1, k2]

set_option maxHeartbeats 4000000 in
/-- into a new row -/
theorem append_grow {argTypes : Array TypeId} {e : TypeId} {ei : TI} {f : TypeInfo} {zv : Value} {zeros : Bool} (H : AppH P argTypes e ei f zv zeros) (ty : TypeId) {base : Option Addr} {sLen sCap n : Nat} {x : Value} {l' old : List Value}
    (hn : NewOk P W zeros ei zv x n l') (hgt : ¬ sLen + n ≤ sCap) (hold : (Builtin.firstCells ei.size sLen (.slice base sLen sCap)).run P W.drew = .ok ⟨old⟩ W.drew)
    (hroom : room (sLen + n) ei.bytes = true) :
    ∃ c ex, sLen + n ≤ c ∧ ex = rep (c - (sLen + n)) zv.cells.toList ∧ (Builtin.append_ argTypes ty #[.slice base sLen sCap, x]).run P W = .ok (.slice (some ⟨W.heap.size, 0, none⟩) (sLen + n) c) (W.drew.alloc (.cells ⟨old ++ l' ++ ex⟩ e)) := by
  obtain ⟨⟨st, si, h0, hts, hd⟩, hte, hf, hfb, hzv, hzl, hz⟩ := H
  obtain ⟨hr1, hr2⟩ := room_spec hroom
  have hirun : ∀ W', (typeInfo e).run P W' = .ok f W' := fun W' => by unfold typeInfo; simp [hf]
  have hzrun : ∀ W', (zeroValue e).run P W' = .ok zv W' := fun W' => by unfold zeroValue typeInfo; simp [hf, hzv]
  have hsrun : ∀ W', (sizeOf e).run P W' = .ok ei.size W' := fun W' => hte.runSize
  have hnc := nextcap_le (sLen + n) sCap (by omega)
  have h48 : ¬ (281474976710656 < Builtin.nextslicecap (sLen + n) sCap * f.bytes) := by
    rw [hfb]
    have := Nat.mul_le_mul_right ei.bytes hnc
    omega
  have h63 : ¬ (9223372036854775807 < ((sLen : Int) + (n : Int))) := by omega
  have key : ∀ (hzf : zeros = false), (∀ W', (Builtin.lenOf x).run P W' = .ok n W') ∧ (Builtin.firstCells ei.size n x).run P W.drew = .ok ⟨l'⟩ W.drew := by
    intro hzf; subst hzf; exact ⟨hn.1, hn.2 W.drew rfl⟩
  refine ⟨Question.cut (.appendCap (sLen + n) sCap e) (W.tape W.drawn (.appendCap (sLen + n) sCap e)), _, by simp [Question.cut], rfl, ?_⟩
  rcases hz with ⟨h1, rfl⟩ | ⟨xt, xi, h1, htx, rfl⟩
  · obtain ⟨k1, k2⟩ := key rfl
    simp [Builtin.append_, h0, h1, hts.runU, hd, hsrun, k1, k2, hgt, hirun, h48, h63, Question.forced, hold, hzrun, zeroCells_eq, run_newRow]
  · cases hxd : xi.d
    case int k =>
      rw [hxd] at hn
      obtain ⟨kk, rfl, hb1, hb2, rfl⟩ := hn
      have hw1 : IntKind.i64.wrap (n : Int) = (n : Int) := i64_wrap n (by omega)
      have hbig : ¬ ((281474976710656 : Int) < (n : Int) * (f.bytes : Int)) := by
        rw [hfb]
        have e := Int.natCast_mul n ei.bytes
        generalize n * ei.bytes = m at hb2 e
        rw [← e]; omega
      have hneg : ¬ ((n : Int) < 0) := by omega
      by_cases hz0 : n * ei.size = 0
      · rw [rep_nil_of hzl hz0]
        simp [Builtin.append_, h0, h1, hts.runU, hd, hsrun, htx.runU, hxd, asInt, asIntOf, hw1, hneg, hirun, hbig, hgt, hz0, h48, h63, Question.forced, hold, hzrun, zeroCells_eq, run_newRow]
      · simp [Builtin.append_, h0, h1, hts.runU, hd, hsrun, htx.runU, hxd, asInt, asIntOf, hw1, hneg, hirun, hbig, hgt, hz0, h48, h63, Question.forced, hold, hzrun, zeroCells_eq, run_newRow]
    all_goals
      obtain ⟨k1, k2⟩ := key (by rw [hxd])
      simp [Builtin.append_, h0, h1, hts.runU, hd, hsrun, htx.runU, hxd, k1, k2, hgt, hirun, h48, h63, Question.forced, hold, hzrun, zeroCells_eq, run_newRow]

theorem WRel.drew' (hw : WRel E R h W) : WRel E R h W.drew := hw.drew _

theorem aAppend_ok (hE : EnvOk P E) (hw : WRel E R h W) {argTypes : Array TypeId} {ty : TypeId} {s x : AV} {s' x' : Value} (hs : VR R s s') (hx : VR R x x') {r : OR} (hr : aAppend E argTypes s x h = some r) :
    OpSat P E R h W (do pure (.value (← Builtin.append_ argTypes ty #[s', x']))) r := by
  unfold aAppend at hr
  split at hr
  · cases hr
  rename_i st hst
  split at hr
  · cases hr
  rename_i si hsi
  split at hr
  rotate_left
  · cases hr
  rename_i e hd
  split at hr
  · cases hr
  rename_i ei hei
  split at hr
  · cases hr
  rename_i z hz
  split at hr
  · cases hr
  rename_i zeros hzeros
  split at hr
  · cases hr
  rename_i n l hnew
  have hte := hE.ti e ei hei
  obtain ⟨f, hf, hfs, hfb, hfz⟩ := hte.info
  obtain ⟨zv, hzv, hzz, _, hzl, _⟩ := hfz z hz
  have hzr := ofVs_rel (R := R) hzz
  have H : AppH P argTypes e ei f zv zeros := ⟨⟨st, si, hst, hE.ti _ _ hsi, hd⟩, hte, hf, hfb, hzv, by rw [← hzr.length, hzl], appZeros_ok hE hzeros⟩
  obtain ⟨l', hl⟩ := newOf_ok hw hz hzr hx hnew
  rcases hl with ⟨hlr, hll, hno⟩ | hl
  rotate_left
  · exact absurd hzl hl
  cases n with
  | zero =>
    simp only [appendTo] at hr
    split at hr
    · simp only [Option.some.injEq] at hr; subst hr
      rw [hs.inv_nils]
      exact .same hw (run_v (append_nil0 H ty hno)) .nils
    · rename_i b o len cap
      try simp only at hr
      split at hr
      · rename_i hle
        simp only [Option.some.injEq] at hr; subst hr
        obtain ⟨r, ad, c', hrb, he, ⟨_, hcc⟩, _⟩ := hs.inv_slc
        have hle' : len ≤ cap := Nat.le_of_ble_eq_true hle
        have : l' = [] := List.eq_nil_of_length_eq_zero (by simpa using hll)
        subst this
        refine .same hw (run_v (v := s') ?_) hs
        rw [he]
        exact append_room H ty hno (by omega) rfl
      · cases hr
    · cases hr
  | succ m =>
    simp only [appendTo] at hr
    split at hr
    · cases hr
    rename_i hone
    have hones := allLe_one hlr hone
    split at hr
    · -- onto nil
      split at hr
      · rename_i hroom
        simp only [Option.some.injEq] at hr; subst hr
        rw [hs.inv_nils]
        obtain ⟨c, ex, hc, hex, hrun⟩ := append_grow (W := W) (base := none) (sLen := 0) (sCap := 0) (old := []) H ty hno (by omega) (by simp [Builtin.firstCells]) (by rw [Nat.zero_add]; exact hroom)
        simp only [Nat.zero_add, List.nil_append] at hrun hc hex
        have hfresh := hw.fresh h.n (Nat.le_refl _)
        have hlen : (l' ++ ex).length = c * ei.size := by
          rw [List.length_append, hll, hex, rep_length, H.zl, ← Nat.add_mul]; congr 1; omega
        obtain ⟨g1, g2⟩ := new_rel (h := h.new (ownL l e)) hw.drew' hfresh (Nat.lt_succ_self _) (Nat.le_succ _) (fun k hk => get_new_other h _ k hk) (get_new_same h _)
          (.cells ⟨l' ++ ex⟩ e) ⟨W.heap.size, 0, l.length, (l' ++ ex).length, ei.size⟩ rfl (fun R' hle => BR_new W.drew (hlr.mono hle) hei e)
        refine ⟨_, _, _, .inl (run_v hrun), ?_, g1, fun n0 hn0 => (Ext.drew n0 R h W _).trans (g2 n0 hn0) (Nat.le_refl _)⟩
        refine VR.slc (R := R.upd h.n _) h.n 0 (m + 1) (m + 1) c _ (RM.upd_same _ _ _) (Nat.le_refl _) hc (.inr ⟨?_, ?_⟩)
        · simp only [Nat.zero_add]; rw [hlr.length, hll]
        · simp only [Nat.zero_add]; exact hlen.symm
      · cases hr
    · rename_i b o len cap
      try simp only at hr
      obtain ⟨r, ad, c', hrb, he, ⟨hnc, hcc⟩, hor⟩ := hs.inv_slc
      split at hr
      · -- in place
        rename_i hle
        have hle' : len + (m + 1) ≤ cap := Nat.le_of_ble_eq_true hle
        split at hr
        · rename_i h' hst'
          simp only [Option.some.injEq] at hr; subst hr
          rcases hor with ⟨_, h0, _⟩ | ⟨ha, hgr⟩
          · omega
          subst ha
          obtain ⟨g0, g1, g2⟩ := store_rel (P := P) hw hrb hst' hlr hones
          have g0' : (storeCells ((⟨r.blk, r.off + o, none⟩ : Addr).add (len * ei.size)) l').run P W = .ok () (setCells W r.blk (r.off + (o + len * ei.size)) l') := by
            rw [add_mk, Nat.add_assoc]; exact g0
          rw [he]
          refine ⟨_, _, R, .inl (run_v (append_room H ty hno (by omega) g0')), ?_, g1, fun n0 _ => g2 n0⟩
          exact VR.slc b o (len + (m + 1)) cap c' r hrb hle' hcc hgr
        · cases hr
      · -- grown
        rename_i hle
        have hle' : ¬ len + (m + 1) ≤ cap := fun q => by rw [show Nat.add len (Nat.succ m) = len + (m + 1) from rfl, Nat.ble_eq_true_of_le q] at hle; cases hle
        split at hr
        · rename_i hroom
          split at hr
          · rename_i vs k t hg
            split at hr
            · rename_i hte'
              have hte'' : t = e := Nat.eq_of_beq_eq_true hte'
              subst hte''
              split at hr
              · rename_i hk
                have hk' : o + cap * ei.size = k := Nat.eq_of_beq_eq_true hk
                split at hr
                · rename_i old hold
                  simp only [Option.some.injEq] at hr; subst hr
                  obtain ⟨b1, b2, ⟨i3, hi3, he3⟩, cc, ee, fr, hc, b4, b5, b6⟩ := hw.blocks b r _ hrb hg
                  rw [hei] at hi3
                  simp only [Option.some.injEq] at hi3; subst hi3
                  obtain ⟨holdlen, hgo⟩ := getN_spec _ _ _ _ hold
                  by_cases hinp : len + (m + 1) ≤ c'
                  · -- there is room there
                    rcases hor with ⟨_, h0, h0'⟩ | ⟨ha, hgr⟩
                    · omega
                    subst ha
                    rcases hgr with q | ⟨q1, q2⟩
                    · omega
                    have hroom2 : o + old.length + l.length ≤ r.room := by
                      rw [holdlen, hlr.length, hll, ← q2, ← he3, Nat.add_assoc, ← Nat.add_mul]
                      exact Nat.add_le_add_left (Nat.mul_le_mul_right _ hinp) _
                    have hold2 : getN vs o old.length = some old := by rw [holdlen]; exact hold
                    obtain ⟨g0, g1, g2⟩ := grow_rel (P := P) hw hrb hg hold2 hlr hones hroom2
                    rw [he]
                    have g0' : (storeCells ((⟨r.blk, r.off + o, none⟩ : Addr).add (len * ei.size)) l').run P W = .ok () (setCells W r.blk (r.off + o + old.length) l') := by
                      rw [add_mk, ← holdlen]; exact g0
                    refine ⟨_, _, _, .inl (run_v (append_room H ty hno hinp g0')), ?_, g1, g2⟩
                    have := VR.slc (R := R.upd h.n ⟨r.blk, r.off + o, old.length + l.length, r.room - o, r.es⟩) h.n 0 (len + (m + 1)) (len + (m + 1)) c' _ (RM.upd_same _ _ _) (Nat.le_refl _) hinp (.inr ⟨by
                      simp only [Nat.zero_add]; rw [holdlen, hlr.length, hll, ← he3, ← Nat.add_mul], by
                      simp only [Nat.zero_add]; omega⟩)
                    exact this
                  · -- a new row there
                    obtain ⟨old', hor', hlen', hcell'⟩ := loadN_rel hw hrb (show h.loadN b o (len * ei.size) = some old by unfold AH.loadN; rw [hg]; exact hold)
                    have hfirst : (Builtin.firstCells ei.size len (.slice (some ad) len c')).run P W.drew = .ok ⟨old'⟩ W.drew := by
                      rcases hor with ⟨h0, _, _⟩ | ⟨ha, _⟩
                      · subst h0
                        have : old' = [] := List.eq_nil_of_length_eq_zero (by simpa using hlen')
                        subst this
                        simp [Builtin.firstCells, loadCells, loadCellsFrom]
                      · subst ha
                        have := run_loadCells_list (P := P) W.drew ⟨r.blk, r.off + o, none⟩ old' (fun j v hj => by rw [add_mk]; exact hcell' j v hj)
                        rw [hlen'] at this
                        simpa [Builtin.firstCells] using this
                    rw [he]
                    obtain ⟨c, ex, hc2, hex, hrun⟩ := append_grow (W := W) H ty hno hinp hfirst hroom
                    have hw2 := dead_rel hw.drew' hg
                    have hfresh := hw.fresh h.n (Nat.le_refl _)
                    have hall : VRs R (old ++ l) (old' ++ l') := hor'.append hlr
                    have hlen : (old' ++ l' ++ ex).length = c * ei.size := by
                      rw [List.length_append, List.length_append, hlen', hll, hex, rep_length, H.zl, ← Nat.add_mul, ← Nat.add_mul]; congr 1; omega
                    obtain ⟨g1, g2⟩ := new_rel (h := (h.put b .dead).new (ownL (old ++ l) t)) hw2 hfresh (Nat.lt_succ_self _) (Nat.le_succ _) (fun k hk => get_new_other (h.put b .dead) _ k hk) (get_new_same (h.put b .dead) _)
                      (.cells ⟨old' ++ l' ++ ex⟩ t) ⟨W.heap.size, 0, (old ++ l).length, (old' ++ l' ++ ex).length, ei.size⟩ rfl (fun R' hle => BR_new W.drew (hall.mono hle) hei t)
                    have hdead : ∀ n0, Ext n0 R h W R (h.put b .dead) W.drew := by
                      intro n0
                      refine ⟨RM.le_refl R, Nat.le_refl _, rfl, rfl, rfl, Nat.le_refl _, fun _ _ _ => rfl, fun k hk => ?_, fun _ _ => rfl⟩
                      obtain ⟨j, q, y, hq, hy, hyo, hyk⟩ := hk
                      by_cases e1 : j = b
                      · subst e1; rw [get_put_same] at hy; simp only [Option.some.injEq] at hy; subst hy; simp [AB.isOwn] at hyo
                      · rw [get_put_other _ _ _ _ e1] at hy; exact .inl ⟨j, q, y, hq, hy, hyo, hyk⟩
                    refine ⟨_, _, _, .inl (run_v hrun), ?_, g1, fun n0 hn0 => (hdead n0).trans (g2 n0 hn0) (Nat.le_refl _)⟩
                    refine VR.slc (R := R.upd h.n _) h.n 0 (len + (m + 1)) (len + (m + 1)) c _ (RM.upd_same _ _ _) (Nat.le_refl _) hc2 (.inr ⟨?_, ?_⟩)
                    · simp only [Nat.zero_add]; rw [hall.length, List.length_append, hlen', hll, ← Nat.add_mul]
                    · simp only [Nat.zero_add]; exact hlen.symm
                · cases hr
              · cases hr
            · cases hr
          · cases hr
        · cases hr
    · cases hr

end
end Go.AE
