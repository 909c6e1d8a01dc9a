import Derived.Test.YtodgdijafcenbaaAE13
namespace Go.AE
section
variable {P : Program} {E : Env} {R : RM} {h : AH} {W : World} {T : PT AV} {a : Act}

theorem aLen_ok (hE : EnvOk P E) (hw : WRel E R h W) {argTypes : Array TypeId} {t ty : TypeId} (ht : argTypes[0]? = some t) {x : AV} {x' : Value} (hx : VR R x x') {r : OR} (hr : aLen E t x h = some r) :
    OpSat P E R h W (do pure (.value (← Builtin.len_ argTypes ty #[x']))) r := by
  unfold aLen at hr
  split at hr
  · cases hr
  rename_i i hi
  have hti := hE.ti t i hi
  split at hr
  · rename_i l hd
    simp only [Option.some.injEq] at hr; subst hr
    obtain ⟨s, hs, he⟩ := hx.inv_str; subst he
    have hsz : s.size = l.length := by rw [← hs]; simp
    refine .same hw (run_v (v := goInt s.size) ?_) ?_
    · simp [Builtin.len_, ht, hti.runU, hd]
    · rw [hsz]; exact .int _ _
  · rename_i n e hd
    simp only [Option.some.injEq] at hr; subst hr
    exact .same hw (run_v (v := goInt n) (by simp [Builtin.len_, ht, hti.runU, hd])) (.int _ _)
  · rename_i e hd
    simp only [Option.some.injEq] at hr; subst hr
    rw [hx.inv_nils]
    exact .same hw (run_v (v := goInt (0 : Nat)) (by simp [Builtin.len_, ht, hti.runU, hd])) (.int _ _)
  · rename_i e b o n c hd
    simp only [Option.some.injEq] at hr; subst hr
    obtain ⟨rr, ad, c', _, he, _⟩ := hx.inv_slc; subst he
    exact .same hw (run_v (v := goInt n) (by simp [Builtin.len_, ht, hti.runU, hd])) (.int _ _)
  · rename_i kt el hd
    split at hr
    · rename_i es hes
      simp only [Option.some.injEq] at hr; subst hr
      obtain ⟨es', hmr, hm2⟩ := mapEs_ok hw hx hes
      have hl : es.length = es'.length := by
        clear hes hm2
        induction hmr with
        | nil => rfl
        | cons _ _ _ _ _ _ _ _ ih => simp [ih]
      rcases hm2 with ⟨rfl, rfl⟩ | ⟨rr, clk, rfl, hc⟩
      · refine .same hw (run_v (v := goInt (0 : Nat)) (by simp [Builtin.len_, ht, hti.runU, hd])) ?_
        rw [hl]; exact .int _ _
      · refine .same hw (run_v (v := goInt es'.length) (by simp [Builtin.len_, ht, hti.runU, hd, getObj_map hc])) ?_
        rw [hl]; exact .int _ _
    · cases hr
  · cases hr

theorem copySrc_ok (hw : WRel E R h W) {ei : TI} {x : AV} {x' : Value} (hx : VR R x x') {len n : Nat} {l : List AV} (hc : copySrc ei x len h = some (n, l)) :
    ∃ l' m, VRs R l l' ∧ l'.length = n * ei.size ∧ (Builtin.lenOf x').run P W = .ok m W ∧ Nat.min m len = n ∧ (Builtin.firstCells ei.size n x').run P W = .ok ⟨l'⟩ W := by
  unfold copySrc at hc
  split at hc
  · simp only [Option.some.injEq, Prod.mk.injEq] at hc
    obtain ⟨rfl, rfl⟩ := hc
    rw [hx.inv_nils]
    exact ⟨[], 0, .nil, by simp, rfl, Nat.zero_min _, rfl⟩
  · rename_i bs
    split at hc
    · rename_i h1
      simp only [Option.some.injEq, Prod.mk.injEq] at hc
      obtain ⟨rfl, rfl⟩ := hc
      obtain ⟨s, hs, he⟩ := hx.inv_str; subst he
      have hsz : s.size = bs.length := by rw [← hs]; simp
      refine ⟨(bs.take len).map fun (b : UInt8) => Value.int .u8 b.toNat, bs.length, ofBytes_rel _, ?_, ?_, rfl, ?_⟩
      · simp [h1]; omega
      · simp [Builtin.lenOf, hsz]
      · simp only [Builtin.firstCells, Sem.run_pure]
        congr 1
        apply Array.toList_inj.1
        simp only [Array.toList_map]
        rw [extract_bytes, hs]
        simp only [List.drop_zero]
        congr 1
        rw [Nat.min_comm, ← List.take_take]
        simp
    · cases hc
  · rename_i b o m c
    split at hc
    · rename_i cs hcs
      simp only [Option.some.injEq, Prod.mk.injEq] at hc
      obtain ⟨rfl, rfl⟩ := hc
      obtain ⟨r, ad, c', hrb, he, ⟨hmc, _⟩, hor⟩ := hx.inv_slc; subst he
      obtain ⟨l', hlr, hlen, hcell⟩ := loadN_rel hw hrb hcs
      refine ⟨l', m, hlr, hlen, rfl, rfl, ?_⟩
      rcases hor with ⟨h0, _, _⟩ | ⟨ha, _⟩
      · subst h0
        have : l' = [] := List.eq_nil_of_length_eq_zero (by simpa using hlen)
        subst this
        simp [Builtin.firstCells, loadCells, loadCellsFrom]
      · subst ha
        have := run_loadCells_list (P := P) W ⟨r.blk, r.off + o, none⟩ l' (fun j v hj => by rw [add_mk]; exact hcell j v hj)
        rw [hlen] at this
        simpa [Builtin.firstCells] using this
    · cases hc
  · cases hc

theorem aCopy_ok (hE : EnvOk P E) (hw : WRel E R h W) {argTypes : Array TypeId} {t ty : TypeId} (ht : argTypes[0]? = some t) {d s : AV} {d' s' : Value} (hd' : VR R d d') (hs : VR R s s') {r : OR} (hr : aCopy E t d s h = some r) :
    OpSat P E R h W (do pure (.value (← Builtin.copy_ argTypes ty #[d', s']))) r := by
  unfold aCopy at hr
  split at hr
  · cases hr
  rename_i i hi
  have hti := hE.ti t i hi
  split at hr
  · rename_i e hd
    split at hr
    · cases hr
    rename_i ei hei
    have hte := hE.ti e ei hei
    split at hr
    · split at hr
      · rename_i p hp
        obtain ⟨n, l⟩ := p
        simp only [Option.some.injEq] at hr; subst hr
        obtain ⟨l', m, _, _, k1, k2, k3⟩ := copySrc_ok (P := P) hw hs hp
        have hn : n = 0 := by rw [← k2]; exact Nat.min_zero _
        subst hn
        rw [hd'.inv_nils]
        refine .same hw (run_v (v := goInt (0 : Nat)) ?_) (.int _ _)
        simp [Builtin.copy_, ht, hti.runU, hd, k1, hte.runSize, k3]
      · cases hr
    · rename_i b o len cap
      obtain ⟨rg, ad, c', hrb, he, ⟨hlc, _⟩, hor⟩ := hd'.inv_slc; subst he
      split at hr
      · rename_i n l hp
        obtain ⟨l', m, k0, kl, k1, k2, k3⟩ := copySrc_ok (P := P) hw hs hp
        cases n with
        | zero =>
          simp only [Option.some.injEq] at hr; subst hr
          have : l' = [] := List.eq_nil_of_length_eq_zero (by simpa using kl)
          subst this
          refine .same hw (run_v (v := goInt (0 : Nat)) ?_) (.int _ _)
          simp [Builtin.copy_, ht, hti.runU, hd, k1, hte.runSize, k2, k3, storeCells]
        | succ n =>
          simp only at hr
          split at hr
          · rename_i hone
            split at hr
            · rename_i h' hst
              simp only [Option.some.injEq] at hr; subst hr
              rcases hor with ⟨h0, _, _⟩ | ⟨ha, _⟩
              · subst h0
                have h1 : Nat.min m 0 ≤ 0 := Nat.min_le_right m 0
                omega
              subst ha
              obtain ⟨g0, g1, g2⟩ := store_rel (P := P) hw hrb hst k0 (allLe_one k0 hone)
              refine ⟨goInt ((n + 1 : Nat) : Int), _, R, .inl (run_v ?_), .int _ _, g1, fun n0 _ => g2 n0⟩
              simp [Builtin.copy_, ht, hti.runU, hd, k1, hte.runSize, k2, k3, g0]
            · cases hr
          · cases hr
      · cases hr
    · cases hr
  · cases hr

theorem aClear_ok (hE : EnvOk P E) (hw : WRel E R h W) {argTypes : Array TypeId} {t ty : TypeId} (ht : argTypes[0]? = some t) {x : AV} {x' : Value} (hx : VR R x x') {r : OR} (hr : aClear E t x h = some r) :
    OpSat P E R h W (do pure (.value (← Builtin.clear_ argTypes ty #[x']))) r := by
  unfold aClear at hr
  split at hr
  · cases hr
  rename_i i hi
  have hti := hE.ti t i hi
  split at hr
  · rename_i e hd
    simp only [Option.some.injEq] at hr; subst hr
    rw [hx.inv_nils]
    exact .same hw (run_v (v := .tuple #[]) (by simp [Builtin.clear_, ht, hti.runU, hd])) (.tup _ _ .nil)
  · rename_i e b o n c hd
    obtain ⟨rg, ad, c', hrb, he, ⟨hlc, _⟩, hor⟩ := hx.inv_slc; subst he
    cases n with
    | zero =>
      simp only [Option.some.injEq] at hr; subst hr
      exact .same hw (run_v (v := .tuple #[]) (by simp [Builtin.clear_, ht, hti.runU, hd])) (.tup _ _ .nil)
    | succ n =>
      simp only at hr
      split at hr
      · rename_i ei hei
        split at hr
        · rename_i z hz
          split at hr
          · rename_i h' hst
            simp only [Option.some.injEq] at hr; subst hr
            obtain ⟨f, hf, hfs, hfb, hfz⟩ := (hE.ti _ _ hei).info
            obtain ⟨zv, hzv, hzz, hzone, hzl, _⟩ := hfz z hz
            have hzr := ofVs_rel (R := R) hzz
            rcases hor with ⟨h0, _, _⟩ | ⟨ha, _⟩
            · omega
            subst ha
            have hones : ∀ v ∈ rep (n + 1) zv.cells.toList, Value.oneCell' v = true := by
              have h1 := allLe_one hzr hzone
              generalize n + 1 = m
              induction m with
              | zero => intro v hv; simp [rep] at hv
              | succ m ih =>
                intro v hv
                simp only [rep, List.mem_append] at hv
                exact hv.elim (h1 v) (ih v)
            obtain ⟨g0, g1, g2⟩ := store_rel (P := P) hw hrb hst (hzr.rep (n + 1)) hones
            refine ⟨.tuple #[], _, R, .inl (run_v ?_), .tup _ _ .nil, g1, fun n0 _ => g2 n0⟩
            have hzrun : ∀ W', (zeroValue e).run P W' = .ok zv W' := fun W' => by unfold zeroValue typeInfo; simp [hf, hzv]
            simp [Builtin.clear_, ht, hti.runU, hd, hzrun, zeroCells_eq, g0]
          · cases hr
        · cases hr
      · cases hr
  · rename_i hd
    simp only [Option.some.injEq] at hr; subst hr
    have : x' = .map none := by cases hx; rfl
    subst this
    exact .same hw (run_v (v := .tuple #[]) (by simp [Builtin.clear_, ht, hti.runU, hd])) (.tup _ _ .nil)
  · rename_i kt el rr hd
    split at hr
    · rename_i es hg
      simp only [Option.some.injEq] at hr; subst hr
      obtain ⟨rg, hrg, he⟩ := hx.inv_map; subst he
      obtain ⟨o0, o1, es', clk, hc, hmr⟩ := hw.blocks rr rg _ hrg hg
      obtain ⟨g1, g2⟩ := mp_rel hw hrg hg (clk := clk) (.nil : MR R [] [])
      refine ⟨.tuple #[], _, R, .inl (run_v ?_), .tup _ _ .nil, g1, fun n0 _ => g2 n0⟩
      simp [Builtin.clear_, ht, hti.runU, hd, getObj_map hc, setObj_map hc]
    · cases hr
  · cases hr

theorem aDelete_ok (hE : EnvOk P E) (hw : WRel E R h W) {argTypes : Array TypeId} {t ty : TypeId} (ht : argTypes[0]? = some t) {m k : AV} {m' k' : Value} (hm : VR R m m') (hk : VR R k k') {r : OR} (hr : aDelete E t m k h = some r) :
    OpSat P E R h W (do pure (.value (← Builtin.delete_ argTypes ty #[m', k']))) r := by
  unfold aDelete at hr
  split at hr
  · cases hr
  rename_i i hi
  have hti := hE.ti t i hi
  split at hr
  · rename_i kt el hd
    split at hr
    · cases hr
    rename_i ki hki
    have htk := hE.ti kt ki hki
    split at hr
    · cases hr
    rename_i ho
    have hck := fun e => checkKey_ok (W := W) htk hk ho e 9999
    have hck' : ∀ e, (Instr.checkKey e 10000 kt k').run P W = .ok () W := hck
    split at hr
    · simp only [Option.some.injEq] at hr; subst hr
      have : m' = .map none := by cases hm; rfl
      subst this
      exact .same hw (run_v (v := .tuple #[]) (by simp [Builtin.delete_, ht, hti.runU, hd, hck'])) (.tup _ _ .nil)
    · rename_i mr
      obtain ⟨rg, hrg, he⟩ := hm.inv_map; subst he
      split at hr
      · rename_i es hg
        obtain ⟨o0, o1, es', clk, hc, hmr⟩ := hw.blocks mr rg _ hrg hg
        split at hr
        · rename_i j w hfe
          simp only [Option.some.injEq] at hr; subst hr
          obtain ⟨_, e', hej, _, hf, _⟩ := findE_ok (R := R) hE hki hk ho es es' 0 _ hmr hfe
          obtain ⟨g1, g2⟩ := mp_rel hw hrg hg (clk := clk) (dropE_rel es es' j hmr)
          refine ⟨.tuple #[], _, R, .inl (run_v ?_), .tup _ _ .nil, g1, fun n0 _ => g2 n0⟩
          have hmod : (⟨es'⟩ : Array MapEntry).eraseIdxIfInBounds j = ⟨es'.eraseIdx j⟩ := by
            apply Array.toList_inj.1
            simp
          simp [Builtin.delete_, ht, hti.runU, hd, getObj_map hc, hck', findKey_run htk hf, setObj_map hc, hmod]
        · rename_i hfe
          simp only [Option.some.injEq] at hr; subst hr
          have hf := findE_ok (R := R) hE hki hk ho es es' 0 _ hmr hfe
          obtain ⟨g1, g2⟩ := mp_rel hw hrg hg (clk := clk) hmr
          refine ⟨.tuple #[], _, R, .inl (run_v ?_), .tup _ _ .nil, g1, fun n0 _ => g2 n0⟩
          simp [Builtin.delete_, ht, hti.runU, hd, getObj_map hc, hck', findKey_run htk hf, setObj_map hc]
        · cases hr
      · cases hr
    · cases hr
  · cases hr

end
end Go.AE
