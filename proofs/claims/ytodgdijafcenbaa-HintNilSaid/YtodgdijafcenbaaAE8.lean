import Derived.Test.YtodgdijafcenbaaAE7
import Derived.Laws.Tables
namespace Go.AE
section
variable {P : Program} {E : Env} {R : RM} {h : AH} {W : World} {T : PT AV} {a : Act}

theorem extract_bytes (s : ByteArray) (x y : Nat) : (s.extract x y).data.toList = (s.data.toList.take y).drop x := by
  rw [ByteArray.data_extract, Array.toList_extract, List.drop_take]

theorem stride_rel (hw : WRel E R h W) {b size : Nat} {r : Reg} (hr : R b = some r) (hs : strideOk E h b size = true) : r.es = size := by
  unfold strideOk at hs
  split at hs
  · rename_i vs n t hg
    obtain ⟨_, _, ⟨i, hi, he⟩, _⟩ := hw.blocks b r _ hr hg
    rw [hi] at hs
    simp only at hs
    rw [← he]; exact Nat.eq_of_beq_eq_true hs
  · rename_i vs es hg
    obtain ⟨he, _⟩ := hw.blocks b r _ hr hg
    rw [he]; exact Nat.eq_of_beq_eq_true hs
  · cases hs

theorem oSlice_ok (hE : EnvOk P E) (hw : WRel E R h W) (hT : TR R T a.tmps) {t : TypeId} {x : Operand} {lo hi : Option Operand} {r : OR} (hr : oSlice E T t x lo hi h = some r) :
    OpSat P E R h W (do pure (.value (← Instr.sliceAt t (a.eval x) (lo.map a.eval) (hi.map a.eval) none))) r := by
  unfold oSlice at hr
  split at hr
  · rename_i i hi'
    have hti := hE.ti t i hi'
    split at hr
    · rename_i v hx
      have hx' := eval_rel hT hx
      split at hr
      · -- a string
        rename_i l hd
        split at hr
        · rename_i e he
          split at hr
          · rename_i s hs
            simp only [Option.some.injEq] at hr; subst hr
            obtain ⟨u, hu, heq⟩ := hx'.inv_str
            have hsz : u.size = l.length := by rw [← hu]; simp
            have hb := bounds_run (P := P) (W := W) (isS := false) hT (Nat.le_refl _) he hs
            refine .same hw (run_v (v := .string (u.extract s e)) ?_) (.str _ _ (by rw [extract_bytes, hu]))
            rw [heq]
            simp only [Instr.sliceAt, Sem.run_bind, hti.runU, Result.andThen_ok, hd, Instr.slice, Option.isSome_none, Bool.false_eq_true, if_false, hsz, hb, Sem.run_pure]
          · cases hr
        · cases hr
      · -- a nil slice
        rename_i el hd
        split at hr
        · rename_i ei hei
          split at hr
          · rename_i e he
            split at hr
            · rename_i s hs
              simp only [Option.some.injEq] at hr; subst hr
              have hb := bounds_run (P := P) (W := W) (isS := true) hT (Nat.le_refl _) he hs
              have e0 : e = 0 := by have := bound_le he (Nat.le_refl _); omega
              have s0 : s = 0 := by have := bound_le hs (Nat.zero_le _); omega
              subst e0; subst s0
              rw [hx'.inv_nils]
              refine .same hw (run_v (v := .slice none 0 0) ?_) .nils
              simp only [Instr.sliceAt, Sem.run_bind, hti.runU, Result.andThen_ok, hd, Instr.slice, hb, (hE.ti _ _ hei).runSize, Sem.run_pure]
              rfl
            · cases hr
          · cases hr
        · cases hr
      · -- a slice
        rename_i el b o len cap hd
        split at hr
        · rename_i ei hei
          split at hr
          · rename_i e he
            split at hr
            · rename_i s hs
              split at hr
              · rename_i hst
                simp only [Option.some.injEq] at hr; subst hr
                obtain ⟨r, ad, c', hrb, heq, ⟨hlc, hcc⟩, hor⟩ := hx'.inv_slc
                have hb := bounds_run (P := P) (W := W) (isS := true) hT hcc he hs
                have hes := stride_rel hw hrb hst
                have hse : s ≤ e := bound_le hs (Nat.zero_le _)
                have hec : e ≤ cap := bound_le he hlc
                have hrun : (Instr.sliceAt t (.slice (some ad) len c') (lo.map a.eval) (hi.map a.eval) none).run P W = .ok (.slice (if c' = s then some ad else some (ad.add (s * ei.size))) (e - s) (c' - s)) W := by
                  simp only [Instr.sliceAt, Sem.run_bind, hti.runU, Result.andThen_ok, hd, Instr.slice, hb, (hE.ti _ _ hei).runSize, Sem.run_pure]
                  rfl
                rw [heq]
                refine .same hw (run_v hrun) ?_
                by_cases hcs : c' = s
                · rw [if_pos hcs]
                  have h1 : e - s = 0 := by omega
                  have h2 : c' - s = 0 := by omega
                  have h3 : cap - s = 0 := by omega
                  rw [h1, h2, h3]
                  exact .slc0 _ _ _ r hrb
                · rw [if_neg hcs]
                  rcases hor with ⟨q1, q2, q3⟩ | ⟨hq, hq'⟩
                  · omega
                  · subst hq
                    rw [add_mk]
                    have := VR.slc (R := R) b (o + s * ei.size) (e - s) (cap - s) (c' - s) r hrb (by omega) (by omega) (by
                      rcases hq' with q | ⟨q1, q2⟩
                      · left; omega
                      · right
                        rw [hes] at q1 q2 ⊢
                        have e1 : s * ei.size + (cap - s) * ei.size = cap * ei.size := by rw [← Nat.add_mul]; congr 1; omega
                        have e2 : s * ei.size + (c' - s) * ei.size = c' * ei.size := by rw [← Nat.add_mul]; congr 1; omega
                        omega)
                    rw [← Nat.add_assoc] at this
                    exact this
              · cases hr
            · cases hr
          · cases hr
        · cases hr
      · -- an array's place
        rename_i n el b o hd
        split at hr
        · rename_i ei hei
          split at hr
          · rename_i e he
            split at hr
            · rename_i s hs
              simp only [Option.some.injEq] at hr; subst hr
              obtain ⟨r, hrb, heq⟩ := hx'.inv_ptr
              have hb := bounds_run (P := P) (W := W) (isS := false) hT (Nat.le_refl _) he hs
              have hse : s ≤ e := bound_le hs (Nat.zero_le _)
              have hec : e ≤ n := bound_le he (Nat.le_refl _)
              have hrun : (Instr.sliceAt t (.pointer (some ⟨r.blk, r.off + o, none⟩)) (lo.map a.eval) (hi.map a.eval) none).run P W = .ok (.slice (some (if n = s then ⟨r.blk, r.off + o, none⟩ else (⟨r.blk, r.off + o, none⟩ : Addr).add (s * ei.size))) (e - s) (n - s)) W := by
                simp only [Instr.sliceAt, Sem.run_bind, hti.runU, Result.andThen_ok, hd, Instr.sureAddr, hb, (hE.ti _ _ hei).runSize, Sem.run_pure]
              rw [heq]
              refine .same hw (run_v hrun) ?_
              by_cases hcs : n = s
              · rw [if_pos hcs]
                have h1 : e - s = 0 := by omega
                have h2 : n - s = 0 := by omega
                rw [h1, h2]
                exact .slc0 _ _ _ r hrb
              · rw [if_neg hcs, add_mk, Nat.add_assoc]
                exact VR.slc b (o + s * ei.size) (e - s) (n - s) (n - s) r hrb (by omega) (Nat.le_refl _) (.inl rfl)
            · cases hr
          · cases hr
        · cases hr
      · cases hr
    · cases hr
  · cases hr

end
end Go.AE
