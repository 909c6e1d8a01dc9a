import Derived.Test.YtodgdijafcenbaaAE9
import Derived.Laws.BytesArg
namespace Go.AE
section
variable {P : Program} {E : Env} {R : RM} {h : AH} {W : World} {T : PT AV} {a : Act}

theorem nBuildSlice_ok (hE : EnvOk P E) (hT : TR R T a.tmps) {t : TypeId} {len : Nat} {parts : Array (Nat × Operand)} {blk : AB} {mk : Nat → AV} (hr : nBuildSlice E T t len parts.toList = some (blk, mk)) :
    NewSat P E R W (do pure (.value (← Instr.buildSlice t len (parts.map fun (i, x) => (i, a.eval x))))) blk mk := by
  unfold nBuildSlice at hr
  split at hr
  · rename_i i hi
    have hti := hE.ti t i hi
    split at hr
    · rename_i ps hps
      have hpr := parts_rel hT hps
      split at hr
      · rename_i e hd
        split at hr
        · rename_i ei hei
          have hte := hE.ti e ei hei
          obtain ⟨f, hf, hfs, hfb, hfz⟩ := hte.info
          split at hr
          · rename_i z hz
            obtain ⟨zv, hzv, hzz, _, hzl, _⟩ := hfz z hz
            have hzr := ofVs_rel (R := R) hzz
            split at hr
            · rename_i hle
              have hle' : len * ei.size ≤ 16777216 := Nat.le_of_ble_eq_true hle
              split at hr
              · rename_i l hl
                split at hr
                · simp only [Option.some.injEq, Prod.mk.injEq] at hr
                  obtain ⟨rfl, rfl⟩ := hr
                  have hzlen : zv.cells.toList.length = ei.size := by rw [← hzr.length, hzl]
                  have hcells : ∀ z0 : Array Value, (if len * ei.size = 0 then z0 = #[] else z0 = zv.cells) → ((Array.range (len * ei.size)).map fun i => z0[i % z0.size]!) = ⟨rep len zv.cells.toList⟩ := by
                    intro z0 hz0
                    by_cases h0 : len * ei.size = 0
                    · have : rep len zv.cells.toList = [] := List.eq_nil_of_length_eq_zero (by rw [rep_length, hzlen, h0])
                      rw [this, h0]; simp
                    · rw [if_neg h0] at hz0
                      subst hz0
                      rw [← hzlen]
                      exact zeros_eq zv.cells.toList len
                  obtain ⟨l', hfill, hlr⟩ := fill_rel (R := R) (fun j => some (j * ei.size, ei.size)) (fun j => some (j * ei.size, ei.size)) (fun j q hq => hq) ps _ (rep len z) l ⟨rep len zv.cells.toList⟩ hpr (hzr.rep len) hl
                  have hpl : (parts.map fun (i, x) => (i, a.eval x)).toList = parts.toList.map fun (i, x) => (i, a.eval x) := by simp
                  refine NewSat.row hlr hei (v' := .slice (some ⟨W.heap.size, 0, none⟩) len len) (run_v ?_) fun R' id hid => ?_
                  · have hzrun : (zeroValue e).run P W = .ok zv W := by unfold zeroValue typeInfo; simp [hf, hzv]
                    simp only [Instr.buildSlice, Sem.run_bind, hti.runU, hd, Result.andThen_ok, hte.runSize]
                    rw [if_neg (by omega)]
                    simp only [Sem.run_pure, Result.andThen_ok, Sem.run_ite, Sem.run_bind, hzrun, hpl]
                    by_cases h0 : len * ei.size = 0
                    · rw [if_pos h0]
                      rw [hcells #[] (by rw [if_pos h0]), hfill]
                      simp [run_newRow]
                    · rw [if_neg h0]
                      rw [hcells zv.cells (by rw [if_neg h0]), hfill]
                      simp [run_newRow]
                  · have := VR.slc (R := R') id 0 len len len _ hid (Nat.le_refl _) (Nat.le_refl _) (.inl rfl)
                    exact this
                · cases hr
              · cases hr
            · cases hr
          · cases hr
        · cases hr
      · cases hr
    · cases hr
  · cases hr

theorem nMakeMap_ok (hE : EnvOk P E) (hT : TR R T a.tmps) {t : TypeId} {x : Option Operand} {blk : AB} {mk : Nat → AV} (hr : nMakeMap E T t x = some (blk, mk)) :
    NewSat P E R W (do pure (.value (← Instr.makeMap t (x.map a.eval)))) blk mk := by
  have main : ∀ s : Sem Next, s.run P W = .ok (.value (.map (some W.heap.size))) (W.alloc (.map #[] 0)) → NewSat P E R W s (.mp []) (fun id => .map id) := by
    intro s hs
    exact ⟨_, ⟨W.heap.size, 0, 0, 1, 1⟩, _, hs, rfl, fun R' _ => BR_newMap W, fun R' id hid => .map id _ hid⟩
  unfold nMakeMap at hr
  split at hr
  · simp only [Option.some.injEq, Prod.mk.injEq] at hr
    obtain ⟨rfl, rfl⟩ := hr
    exact main _ (by simp [Instr.makeMap])
  · rename_i o
    split at hr
    · rename_i i hi
      split at hr
      · rename_i k n hv
        split at hr
        · rename_i kt el hd
          simp only [Option.some.injEq, Prod.mk.injEq] at hr
          obtain ⟨rfl, rfl⟩ := hr
          have := (eval_rel hT hv).inv_int
          exact main _ (by simp [Instr.makeMap, this, (hE.ti _ _ hi).runU, hd, asInt, asIntOf])
        · cases hr
      · cases hr
    · cases hr

theorem i64_wrap (n : Nat) (h : n ≤ 4611686018427387904) : IntKind.i64.wrap (n : Int) = (n : Int) := by
  rw [wrap_i64]; omega

theorem nMakeSlice_ok (hE : EnvOk P E) (hT : TR R T a.tmps) {t : TypeId} {x y : Operand} {blk : AB} {mk : Nat → AV} (hr : nMakeSlice E T t x y = some (blk, mk)) :
    NewSat P E R W (do pure (.value (← Instr.makeSlice t (a.eval x) (a.eval y)))) blk mk := by
  unfold nMakeSlice at hr
  split at hr
  · rename_i i hi
    have hti := hE.ti t i hi
    split at hr
    · rename_i k l hx
      have hx' := ofNat_int (eval_rel hT hx)
      split at hr
      · rename_i k' c hy
        have hy' := ofNat_int (eval_rel hT hy)
        split at hr
        · rename_i e hd
          split at hr
          · rename_i ei hei
            have hte := hE.ti e ei hei
            obtain ⟨f, hf, hfs, hfb, hfz⟩ := hte.info
            split at hr
            · rename_i z hz
              obtain ⟨zv, hzv, hzz, _, hzl, _⟩ := hfz z hz
              have hzr := ofVs_rel (R := R) hzz
              split at hr
              · rename_i hle
                simp only [Bool.and_eq_true, Nat.ble_eq] at hle
                obtain ⟨⟨h1, h2⟩, h3⟩ := hle
                simp only [Option.some.injEq, Prod.mk.injEq] at hr
                obtain ⟨rfl, rfl⟩ := hr
                have hzlen : zv.cells.toList.length = ei.size := by rw [← hzr.length, hzl]
                have hcells : ∀ z0 : Array Value, (if c * ei.size = 0 then z0 = #[] else z0 = zv.cells) → ((Array.range (c * ei.size)).map fun i => z0[i % z0.size]!) = ⟨rep c zv.cells.toList⟩ := by
                  intro z0 hz0
                  by_cases h0 : c * ei.size = 0
                  · have : rep c zv.cells.toList = [] := List.eq_nil_of_length_eq_zero (by rw [rep_length, hzlen, h0])
                    rw [this, h0]; simp
                  · rw [if_neg h0] at hz0
                    subst hz0
                    rw [← hzlen]
                    exact zeros_eq zv.cells.toList c
                refine NewSat.row (hzr.rep c) hei (v' := .slice (some ⟨W.heap.size, 0, none⟩) l c) (run_v ?_) fun R' id hid => ?_
                · have hzrun : (zeroValue e).run P W = .ok zv W := by unfold zeroValue typeInfo; simp [hf, hzv]
                  have hirun : (typeInfo e).run P W = .ok f W := by unfold typeInfo; simp [hf]
                  have hw1 : IntKind.i64.wrap (l : Int) = (l : Int) := i64_wrap l (by omega)
                  have hw2 : IntKind.i64.wrap (c : Int) = (c : Int) := i64_wrap c h2
                  have hbig : ¬ ((f.bytes : Int) * (c : Int) > 2 ^ 48) := by
                    rw [hfb]
                    have e := Int.natCast_mul ei.bytes c
                    generalize ei.bytes * c = m at h1 e
                    rw [← e]
                    omega
                  simp only [Instr.makeSlice, Sem.run_bind, hti.runU, hd, Result.andThen_ok, hx', hy', asInt, asIntOf, Sem.run_pure, hirun, hw1, hw2]
                  rw [if_neg (by
                    simp only [Bool.or_eq_true, decide_eq_true_eq, not_or]
                    exact ⟨⟨⟨by omega, hbig⟩, by omega⟩, by omega⟩)]
                  simp only [Sem.run_pure, Result.andThen_ok, Sem.run_bind, run_askRoom, hte.runSize, Int.toNat_natCast, Sem.run_ite, hzrun]
                  by_cases h0 : c * ei.size = 0
                  · rw [if_pos h0]
                    rw [hcells #[] (by rw [if_pos h0])]
                    simp [run_newRow]
                  · rw [if_neg h0]
                    rw [hcells zv.cells (by rw [if_neg h0])]
                    simp [run_newRow]
                · exact VR.slc (R := R') id 0 l c c _ hid h3 (Nat.le_refl _) (.inl rfl)
              · cases hr
            · cases hr
          · cases hr
        · cases hr
      · cases hr
    · cases hr
  · cases hr

/-- what is made is laid into the heap at once -/
theorem oNew_ok (hw : WRel E R h W) {s : Sem Next} {n : NewR} (hn : ∀ blk mk, n = some (blk, mk) → NewSat P E R W s blk mk) {r : OR} (hr : oNew n h = some r) : OpSat P E R h W s r := by
  unfold oNew at hr
  split at hr
  · rename_i blk mk
    simp only [Option.some.injEq] at hr; subst hr
    obtain ⟨o, r, v', hs, hrb, hbr, hv⟩ := hn blk mk rfl
    have hfresh := hw.fresh h.n (Nat.le_refl _)
    obtain ⟨h1, h2⟩ := new_rel (h := h.new blk) hw hfresh (Nat.lt_succ_self _) (Nat.le_succ _) (fun k hk => get_new_other h blk k hk) (get_new_same h blk) o r hrb hbr
    exact ⟨v', _, _, .inl hs, hv _ _ (RM.upd_same _ _ _), h1, h2⟩
  · cases hr

end
end Go.AE
