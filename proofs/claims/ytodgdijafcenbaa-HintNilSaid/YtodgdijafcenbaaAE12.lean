import Derived.Test.YtodgdijafcenbaaAE11
namespace Go.AE
section
variable {P : Program} {E : Env} {R : RM} {h : AH} {W : World} {T : PT AV} {a : Act}

/-! ### maps -/
theorem checkKey_ok {kt : TypeId} {ki : TI} (ht : TIOk P kt ki) {k : AV} {k' : Value} (hk : VR R k k') (ho : keyOk ki.d k = true) (e : Bool) (n : Nat) :
    (Instr.checkKey e (n + 1) kt k').run P W = .ok () W := by
  unfold keyOk at ho
  split at ho
  · rename_i hd
    have := hk.inv_int; subst this
    simp only [Instr.checkKey, Sem.run_bind, ht.runU, Result.andThen_ok, hd]; rfl
  · rename_i hd
    obtain ⟨s, _, he⟩ := hk.inv_str; subst he
    simp only [Instr.checkKey, Sem.run_bind, ht.runU, Result.andThen_ok, hd]; rfl
  · cases ho

theorem sameNow_ok (hE : EnvOk P E) {kt : TypeId} {ki : TI} (hki : E.ti kt = some ki) {k x : AV} {k' x' : Value} (hk : VR R k k') (hx : VR R x x') (ho : keyOk ki.d k = true) {d : Nat} {b : Bool}
    (hq : aEq E (d + 1) kt k x = some b) : Instr.sameNow ki.d k' x' = some b ∧ (b = true → Instr.sameBits 10000 x' k' = true) := by
  simp only [aEq, hki] at hq
  unfold keyOk at ho
  split at ho
  · rename_i kk kd n hd
    have := hk.inv_int; subst this
    rw [hd] at hq ⊢
    cases x <;> simp only [reduceCtorEq] at hq
    rename_i k2 m
    have := hx.inv_int; subst this
    split at hq
    · rename_i hkk
      have := kEq_eq hkk; subst this
      simp only [Option.some.injEq] at hq
      rw [iEq_eq] at hq
      refine ⟨by simp only [Instr.sameNow, if_true, ← hq]; rfl, fun hb => ?_⟩
      rw [hb] at hq
      have : n = m := of_decide_eq_true hq
      subst this
      simp [Instr.sameBits]
    · cases hq
  · rename_i l hd
    obtain ⟨s, hs, he⟩ := hk.inv_str; subst he
    rw [hd] at hq ⊢
    cases x <;> simp only [reduceCtorEq] at hq
    rename_i m
    obtain ⟨u, hu, he⟩ := hx.inv_str; subst he
    simp only [Option.some.injEq] at hq
    rw [u8eq_eq] at hq
    have e : (s == u) = b := by
      rw [beq_toListBytes, Lib.toList_data, Lib.toList_data, hs, hu]; exact hq
    refine ⟨by simp only [Instr.sameNow, e], fun hb => ?_⟩
    have : (u == s) = true := by
      rw [beq_toListBytes, Lib.toList_data, Lib.toList_data, hs, hu]
      rw [hb] at hq
      have : l = m := by simpa using hq
      rw [this]; simp
    simp [Instr.sameBits, this]
  · cases ho

theorem findE_ok (hE : EnvOk P E) {kt : TypeId} {ki : TI} (hki : E.ti kt = some ki) {k : AV} {k' : Value} (hk : VR R k k') (ho : keyOk ki.d k = true) :
    ∀ (es : List (AV × AV)) (es' : List MapEntry) (i : Nat) (res : Option (Nat × AV)), MR R es es' → findE E kt k es i = some res →
      match res with
      | none => Instr.findNow ki.d k' es' i = some none
      | some (j, v) => i ≤ j ∧ ∃ e', es'[j - i]? = some e' ∧ VR R v e'.val ∧ Instr.findNow ki.d k' es' i = some (some (j, e'.val)) ∧ Instr.sameBits 10000 e'.key k' = true := by
  intro es
  induction es with
  | nil =>
    intro es' i res hm h
    cases hm
    simp only [findE, Option.some.injEq] at h; subst h
    rfl
  | cons e es ih =>
    intro es' i res hm h
    cases hm with
    | cons kk v e' _ es' hkk hv hl =>
      simp only [findE] at h
      split at h
      · rename_i hb
        simp only [Option.some.injEq] at h; subst h
        obtain ⟨h1, h2⟩ := sameNow_ok hE hki hk hkk ho (d := 9999) hb
        exact ⟨Nat.le_refl _, e', by simp, hv, by simp only [Instr.findNow, h1], h2 rfl⟩
      · rename_i hb
        obtain ⟨h1, h2⟩ := sameNow_ok hE hki hk hkk ho (d := 9999) hb
        have := ih es' (i + 1) res hl h
        cases res with
        | none => simp only [Instr.findNow, h1]; exact this
        | some p =>
          obtain ⟨j, w⟩ := p
          obtain ⟨g1, e2, g2, g3, g4, g5⟩ := this
          refine ⟨by omega, e2, ?_, g3, by simp only [Instr.findNow, h1]; exact g4, g5⟩
          have : j - i = (j - (i + 1)) + 1 := by omega
          rw [this, List.getElem?_cons_succ]; exact g2
      · cases h

theorem zeroV_ok (hE : EnvOk P E) {t : TypeId} {i : TI} (hi : E.ti t = some i) {z : AV} (hz : zeroV i = some z) : ∃ v', (zeroValue t).run P W = .ok v' W ∧ VR R z v' := by
  obtain ⟨f, hf, hfs, hfb, hfz⟩ := (hE.ti t i hi).info
  unfold zeroV at hz
  split at hz
  · rename_i l hl
    obtain ⟨zv, hzv, hzz, _, hzl, hag⟩ := hfz l hl
    have hzr := ofVs_rel (R := R) hzz
    have hrun : (zeroValue t).run P W = .ok zv W := by unfold zeroValue typeInfo; simp [hf, hzv]
    split at hz
    · rename_i hz'
      simp only [Option.some.injEq] at hz; subst hz
      rw [hz', if_pos rfl] at hag
      obtain ⟨cs, hcs⟩ := hag
      subst hcs
      refine ⟨_, hrun, ?_⟩
      cases cs; exact .agg _ _ hzr
    · rename_i hz'
      rw [hz', if_neg (by simp)] at hag
      rw [nth_eq] at hz
      obtain ⟨v', hv', hvr⟩ := hzr.get hz
      rw [hag] at hv'
      simp at hv'
      subst hv'
      exact ⟨_, hrun, hvr⟩
  · cases hz

/-- a map's entries there -/
theorem mapEs_ok (hw : WRel E R h W) {m : AV} {m' : Value} (hm : VR R m m') {es : List (AV × AV)} (he : mapEs h m = some es) :
    ∃ es' : List MapEntry, MR R es es' ∧ ((m' = .map none ∧ es' = []) ∨ ∃ r clk, m' = .map (some r) ∧ W.heap[r]? = some (.map ⟨es'⟩ clk)) := by
  unfold mapEs at he
  split at he
  · simp only [Option.some.injEq] at he; subst he
    cases hm
    exact ⟨[], .nil, .inl ⟨rfl, rfl⟩⟩
  · rename_i r
    obtain ⟨rg, hr, hq⟩ := hm.inv_map; subst hq
    split at he
    · rename_i es2 hg
      simp only [Option.some.injEq] at he; subst he
      obtain ⟨_, _, es', clk, hc, hmr⟩ := hw.blocks r rg _ hr hg
      exact ⟨es', hmr, .inr ⟨_, clk, rfl, hc⟩⟩
    · cases he
  · cases he

theorem getObj_map {r clk : Nat} {es : Array MapEntry} (hc : W.heap[r]? = some (.map es clk)) : (getObj r).run P W = .ok (.map es clk) W := by
  simp [getObj, Sem.run, hc]
theorem setObj_map {r clk : Nat} {es : Array MapEntry} (hc : W.heap[r]? = some (.map es clk)) (o : Obj) : (setObj r o).run P W = .ok () { W with heap := W.heap.setIfInBounds r o } := by
  simp [setObj, Sem.run, hc]

theorem findKey_run {kt : TypeId} {ki : TI} (ht : TIOk P kt ki) {k' : Value} {es' : List MapEntry} {res : Option (Nat × Value)} (hf : Instr.findNow ki.d k' es' 0 = some res) :
    (Instr.findKey kt k' es').run P W = .ok res W := by
  simp only [Instr.findKey, Sem.run_bind, ht.runU, Result.andThen_ok, hf, Sem.run_pure]

theorem lookup_run {t kt el : TypeId} {i ki : TI} (hti : TIOk P t i) (hd : i.d = .map kt el) (htk : TIOk P kt ki) {m' k' : Value} {es' : List MapEntry} {ok : Bool} {res : Option (Nat × Value)}
    (hm : (m' = .map none ∧ es' = []) ∨ ∃ r clk, m' = .map (some r) ∧ W.heap[r]? = some (.map ⟨es'⟩ clk)) (hck : ∀ e, (Instr.checkKey e 10000 kt k').run P W = .ok () W)
    (hf : Instr.findNow ki.d k' es' 0 = some res) {v : Value} {b : Bool} (hv : match res with | some (_, w) => v = w ∧ b = true | none => (zeroValue el).run P W = .ok v W ∧ b = false) :
    (Instr.lookup t m' k' ok).run P W = .ok (if ok then .tuple #[v, .bool b] else v) W := by
  have hfk := findKey_run (W := W) htk hf
  have hfk0 : ∀ l, l = es' → (Instr.findKey kt k' l).run P W = .ok res W := fun l hl => by rw [hl]; exact hfk
  rcases hm with ⟨rfl, rfl⟩ | ⟨r, clk, rfl, hc⟩
  · simp only [Instr.lookup, Sem.run_bind, hti.runU, hd, Result.andThen_ok, Sem.run_pure, hck]
    rw [hfk0 _ rfl]
    simp only [Result.andThen_ok]
    cases res with
    | none => obtain ⟨h1, rfl⟩ := hv; simp only [Sem.run_bind, h1, Result.andThen_ok, Sem.run_pure]
    | some p => obtain ⟨j, w⟩ := p; obtain ⟨rfl, rfl⟩ := hv; simp only [Sem.run_bind, Result.andThen_ok, Sem.run_pure]
  · simp only [Instr.lookup, Sem.run_bind, hti.runU, hd, Result.andThen_ok, Sem.run_pure, getObj_map hc, hck, hfk]
    cases res with
    | none => obtain ⟨h1, rfl⟩ := hv; simp only [Sem.run_bind, h1, Result.andThen_ok, Sem.run_pure]
    | some p => obtain ⟨j, w⟩ := p; obtain ⟨rfl, rfl⟩ := hv; simp only [Sem.run_bind, Result.andThen_ok, Sem.run_pure]

theorem oLookup_ok (hE : EnvOk P E) (hw : WRel E R h W) (hT : TR R T a.tmps) {t : TypeId} {x k : Operand} {ok : Bool} {r : OR} (hr : oLookup E T t x k ok h = some r) :
    OpSat P E R h W (do pure (.value (← Instr.lookup t (a.eval x) (a.eval k) ok))) r := by
  unfold oLookup at hr
  split at hr
  · rename_i i hi
    have hti := hE.ti t i hi
    split at hr
    · rename_i m hm
      have hm' := eval_rel hT hm
      split at hr
      · rename_i kv hkv
        have hk' := eval_rel hT hkv
        split at hr
        · rename_i kt el hd
          split at hr
          · rename_i ki hki
            have htk := hE.ti kt ki hki
            split at hr
            · rename_i ho
              split at hr
              · rename_i es hes
                obtain ⟨es', hmr, hm2⟩ := mapEs_ok hw hm' hes
                have hck := fun e => checkKey_ok (W := W) htk hk' ho e 9999
                split at hr
                · rename_i j v hfe
                  simp only [Option.some.injEq] at hr; subst hr
                  obtain ⟨_, e', _, hv, hf, _⟩ := findE_ok (R := R) hE hki hk' ho es es' 0 _ hmr hfe
                  refine .same hw (run_v (lookup_run hti hd htk hm2 hck hf (v := e'.val) (b := true) ⟨rfl, rfl⟩)) ?_
                  cases ok
                  · exact hv
                  · exact .tup _ _ (.cons _ _ _ _ hv (.cons _ _ _ _ (.bool _) .nil))
                · rename_i hfe
                  split at hr
                  · rename_i ei hei
                    split at hr
                    · rename_i z hz
                      simp only [Option.some.injEq] at hr; subst hr
                      have hf := findE_ok (R := R) hE hki hk' ho es es' 0 _ hmr hfe
                      obtain ⟨zv, hzr, hzv⟩ := zeroV_ok (R := R) (W := W) hE hei hz
                      refine .same hw (run_v (lookup_run hti hd htk hm2 hck hf (v := zv) (b := false) ⟨hzr, rfl⟩)) ?_
                      cases ok
                      · exact hzv
                      · exact .tup _ _ (.cons _ _ _ _ hzv (.cons _ _ _ _ (.bool _) .nil))
                    · cases hr
                  · cases hr
                · cases hr
              · cases hr
            · cases hr
          · cases hr
        · cases hr
      · cases hr
    · cases hr
  · cases hr

theorem setE_rel {k v : AV} {k' v' : Value} (hk : VR R k k') (hv : VR R v v') : ∀ (es : List (AV × AV)) (es' : List MapEntry) (j : Nat), MR R es es' →
    MR R (setE es j k v) (es'.modify j fun e => { e with key := k', val := v' })
  | [], _, _, .nil => by simp [setE]; exact .nil
  | _ :: _, _, 0, .cons kk vv e l l' hkk hvv hl => .cons _ _ _ _ _ hk hv hl
  | _ :: _, _, j + 1, .cons kk vv e l l' hkk hvv hl => .cons _ _ _ _ _ hkk hvv (setE_rel hk hv l l' j hl)

theorem pushE_rel {k v : AV} {e : MapEntry} (hk : VR R k e.key) (hv : VR R v e.val) : ∀ (es : List (AV × AV)) (es' : List MapEntry), MR R es es' → MR R (es ++ [(k, v)]) (es' ++ [e])
  | [], _, .nil => .cons _ _ _ _ _ hk hv .nil
  | _ :: _, _, .cons kk vv e' l l' hkk hvv hl => .cons _ _ _ _ _ hkk hvv (pushE_rel hk hv l l' hl)

theorem dropE_rel : ∀ (es : List (AV × AV)) (es' : List MapEntry) (j : Nat), MR R es es' → MR R (dropE es j) (es'.eraseIdx j)
  | [], _, _, .nil => by simp [dropE]; exact .nil
  | _ :: _, _, 0, .cons kk vv e l l' hkk hvv hl => by simp [dropE]; exact hl
  | _ :: _, _, j + 1, .cons kk vv e l l' hkk hvv hl => by simp [dropE]; exact .cons _ _ _ _ _ hkk hvv (dropE_rel l l' j hl)

theorem oUpdate_ok (hE : EnvOk P E) (hw : WRel E R h W) (hT : TR R T a.tmps) {t : TypeId} {m k x : Operand} {r : OR} (hr : oUpdate E T t m k x h = some r) :
    OpSat P E R h W (do Instr.mapUpdate t (a.eval m) (a.eval k) (a.eval x); pure .skip) r := by
  unfold oUpdate at hr
  split at hr
  · rename_i i hi
    have hti := hE.ti t i hi
    split at hr
    · rename_i mr hm
      obtain ⟨rg, hrg, he⟩ := (eval_rel hT hm).inv_map
      split at hr
      · rename_i kv hkv
        have hk' := eval_rel hT hkv
        split at hr
        · rename_i v hv
          have hv' := eval_rel hT hv
          split at hr
          · rename_i kt el hd
            split at hr
            · rename_i ki hki
              have htk := hE.ti kt ki hki
              split at hr
              · rename_i ho
                split at hr
                · rename_i es hg
                  obtain ⟨o0, o1, es', clk, hc, hmr⟩ := hw.blocks mr rg _ hrg hg
                  have hck := fun e => checkKey_ok (W := W) htk hk' ho e 9999
                  split at hr
                  · rename_i j w hfe
                    simp only [Option.some.injEq] at hr; subst hr
                    obtain ⟨_, e', hej, _, hf, hsb⟩ := findE_ok (R := R) hE hki hk' ho es es' 0 _ hmr hfe
                    simp only [Nat.sub_zero] at hej
                    have hrel := setE_rel hk' hv' es es' j hmr
                    obtain ⟨g1, g2⟩ := mp_rel hw hrg hg (clk := clk) hrel
                    refine ⟨Go.undef, _, R, .inr ⟨?_, rfl⟩, VR.undef R, g1, fun n0 _ => g2 n0⟩
                    have hkk : (Instr.keyThatStays e'.key (a.eval k)).run P W = .ok (a.eval k) W := by
                      unfold Instr.keyThatStays
                      rw [if_pos hsb]; rfl
                    have hel : (⟨es'⟩ : Array MapEntry)[j]? = some e' := by simpa using hej
                    have hmod : (⟨es'⟩ : Array MapEntry).modify j (fun e => { e with key := a.eval k, val := a.eval x }) = ⟨es'.modify j fun e => { e with key := a.eval k, val := a.eval x }⟩ := by
                      apply Array.toList_inj.1
                      simp
                    simp only [Instr.mapUpdate, Sem.run_bind, hti.runU, hd, Result.andThen_ok, he, getObj_map hc, hck, findKey_run htk hf, hel, Option.map_some, Option.getD_some, hkk, setObj_map hc, Sem.run_pure, hmod]
                  · rename_i hfe
                    simp only [Option.some.injEq] at hr; subst hr
                    have hf := findE_ok (R := R) hE hki hk' ho es es' 0 _ hmr hfe
                    have hrel := pushE_rel (e := { key := a.eval k, val := a.eval x, born := clk }) hk' hv' es es' hmr
                    obtain ⟨g1, g2⟩ := mp_rel hw hrg hg (clk := clk + 1) hrel
                    refine ⟨Go.undef, _, R, .inr ⟨?_, rfl⟩, VR.undef R, g1, fun n0 _ => g2 n0⟩
                    have hmod : (⟨es'⟩ : Array MapEntry).push { key := a.eval k, val := a.eval x, born := clk } = ⟨es' ++ [{ key := a.eval k, val := a.eval x, born := clk }]⟩ := by
                      apply Array.toList_inj.1
                      simp
                    simp only [Instr.mapUpdate, Sem.run_bind, hti.runU, hd, Result.andThen_ok, he, getObj_map hc, hck, findKey_run htk hf, setObj_map hc, Sem.run_pure, hmod]
                  · cases hr
                · cases hr
              · cases hr
            · cases hr
          · cases hr
        · cases hr
      · cases hr
    · cases hr
  · cases hr

end
end Go.AE
