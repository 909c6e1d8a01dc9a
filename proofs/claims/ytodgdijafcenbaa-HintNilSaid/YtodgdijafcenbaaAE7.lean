import Derived.Test.YtodgdijafcenbaaAE6
namespace Go.AE
section
variable {P : Program} {E : Env} {R : RM} {h : AH} {W : World} {T : PT AV} {a : Act}

theorem oBin_ok (hE : EnvOk P E) (hw : WRel E R h W) (hT : TR R T a.tmps) {op : BinOp} {t : TypeId} {x y : Operand} {r : OR} (hr : oBin E T op t x y h = some r) :
    OpSat P E R h W (do pure (.value (← (do eqGuard op t x y (a.eval x) (a.eval y); binOp op t (a.eval x) (a.eval y))))) r := by
  unfold oBin at hr
  split at hr
  · rename_i p hp
    split at hr
    · rename_i q hq
      split at hr
      · rename_i v hv
        simp only [Option.some.injEq] at hr; subst hr
        obtain ⟨v', hrun, hvr⟩ := aBin_ok (W := W) hE (xo := x) (yo := y) (eval_rel hT hp) (eval_rel hT hq) hv
        exact .same hw (run_v hrun) hvr
      · cases hr
    · cases hr
  · cases hr

theorem ones_bits (k : IntKind) : (BitVec.ofInt k.bits (if k.signed then -1 else k.max)).toNat = kMod k - 1 := by cases k <;> decide

theorem oUn_ok (hw : WRel E R h W) (hT : TR R T a.tmps) {op : UnOp} {x : Operand} {r : OR} (hr : oUn T op x h = some r) :
    OpSat P E R h W (do pure (.value (← Op.unary op (a.eval x)))) r := by
  unfold oUn at hr
  split at hr
  · rename_i p hp
    have hp' := eval_rel hT hp
    split at hr
    · rename_i v hv
      simp only [Option.some.injEq] at hr; subst hr
      unfold aUn at hv
      split at hv
      · rename_i k n
        simp only [Option.some.injEq] at hv; subst hv
        rw [hp'.inv_int]
        refine .same hw (run_v (v := .int k (k.wrap (0 - n))) rfl) ?_
        rw [mkInt_eq, iSub_eq]; exact .int _ _
      · rename_i k n
        simp only [Option.some.injEq] at hv; subst hv
        rw [hp'.inv_int]
        refine .same hw (run_v (v := .int k (k.wrap ((BitVec.ofInt k.bits (if k.signed then -1 else k.max) ^^^ BitVec.ofInt k.bits n).toNat : Nat))) rfl) ?_
        have e : Nat.xor (Nat.sub (kMod k) 1) (kBits k n) = (BitVec.ofInt k.bits (if k.signed then -1 else k.max) ^^^ BitVec.ofInt k.bits n).toNat := by
          rw [BitVec.toNat_xor, ones_bits, kBits_eq]; rfl
        rw [e, back_eq]; exact .int _ _
      · rename_i b
        simp only [Option.some.injEq] at hv; subst hv
        rw [hp'.inv_bool]
        exact .same hw (run_v rfl) (.bool _)
      · cases hv
    · cases hr
  · cases hr

theorem oField_ok (hE : EnvOk P E) (hw : WRel E R h W) (hT : TR R T a.tmps) {t : TypeId} {x : Operand} {f : Nat} {r : OR} (hr : oField E T t x f h = some r) :
    OpSat P E R h W (do pure (.value (← Instr.field t (a.eval x) f))) r := by
  unfold oField at hr
  split at hr
  · rename_i i hi
    have hti := hE.ti t i hi
    split at hr
    · rename_i cs hx
      obtain ⟨cs', hcs, he⟩ := (eval_rel hT hx).inv_agg
      split at hr
      · rename_i fs hd
        split at hr
        · rename_i fl hf
          split at hr
          · rename_i v hv
            simp only [Option.some.injEq] at hr; subst hr
            have hf' : fs[f]? = some fl := by rw [nth_eq] at hf; simpa using hf
            obtain ⟨v', hrun, hvr⟩ := aPart_ok (W := W) hE hcs hv
            refine .same hw (run_v (v := v') ?_) hvr
            simp [Instr.field, hti.runU, hd, hf', he, asAgg, hrun]
          · cases hr
        · cases hr
      · cases hr
    · cases hr
  · cases hr

theorem oExtract_ok (hw : WRel E R h W) (hT : TR R T a.tmps) {x : Operand} {ix : Nat} {r : OR} (hr : oExtract T x ix h = some r) :
    OpSat P E R h W (do pure (.value (← Instr.extract (a.eval x) ix))) r := by
  unfold oExtract at hr
  split at hr
  · rename_i l hx
    obtain ⟨l', hl, he⟩ := (eval_rel hT hx).inv_tup
    split at hr
    · rename_i v hv
      simp only [Option.some.injEq] at hr; subst hr
      rw [nth_eq] at hv
      obtain ⟨v', hv', hvr⟩ := hl.get hv
      refine .same hw (run_v (v := v') ?_) hvr
      simp [Instr.extract, he, hv']
    · cases hr
  · cases hr

theorem oMakeFunc_ok (hw : WRel E R h W) (hT : TR R T a.tmps) {fn : Fn} {first captured : Array Operand} {r : OR} (hr : oMakeFunc T fn first.toList captured.toList h = some r) :
    OpSat P E R h W (do pure (.value (← Instr.makeFunc fn (first.map a.eval) (captured.map a.eval)))) r := by
  unfold oMakeFunc at hr
  split at hr
  · rename_i f
    split at hr
    · rename_i fs hf
      split at hr
      · rename_i cs hc
        simp only [Option.some.injEq] at hr; subst hr
        refine .same hw (run_v (v := .func (.func f) (first.map a.eval) (captured.map a.eval)) rfl) ?_
        have h1 := evals_rel hT hf
        have h2 := evals_rel hT hc
        have e1 : first.map a.eval = ⟨first.toList.map a.eval⟩ := by apply Array.toList_inj.1; simp
        have e2 : captured.map a.eval = ⟨captured.toList.map a.eval⟩ := by apply Array.toList_inj.1; simp
        rw [e1, e2]
        exact .fn _ _ _ _ _ h1 h2
      · cases hr
    · cases hr
  · cases hr

theorem ofNat_int {R : RM} {k : IntKind} {j : Nat} {q : Value} (hq : VR R (.int k (.ofNat j)) q) : q = .int k (j : Int) := hq.inv_int

theorem oIndexAddr_ok (hE : EnvOk P E) (hw : WRel E R h W) (hT : TR R T a.tmps) {t : TypeId} {x ix : Operand} {r : OR} (hr : oIndexAddr E T t x ix h = some r) :
    OpSat P E R h W (do pure (.value (← Instr.indexAt t (a.eval x) (a.eval ix)))) r := by
  unfold oIndexAddr at hr
  split at hr
  · rename_i i hi
    have hti := hE.ti t i hi
    split at hr
    · rename_i v hx
      have hx' := eval_rel hT hx
      split at hr
      · rename_i k j hj
        have hj' := ofNat_int (eval_rel hT hj)
        split at hr
        · rename_i n e b o hd
          split at hr
          · rename_i hlt
            split at hr
            · rename_i ei hei
              simp only [Option.some.injEq] at hr; subst hr
              have hlt' : j < n := by simpa using hlt
              obtain ⟨r, hrb, he⟩ := hx'.inv_ptr
              refine .same hw (run_v (v := .pointer (some ⟨r.blk, r.off + (o + j * ei.size), none⟩)) ?_) (.ptr _ _ r hrb)
              rw [hj', he]
              have hc : (0 : Int) ≤ (j : Int) ∧ (j : Int) < (n : Int) := ⟨by omega, by omega⟩
              simp only [Instr.indexAt, asIntOf, Sem.run_bind, Sem.run_pure, Result.andThen_ok, hti.runU, hd, Instr.sureAddr]
              simp only [hc, and_self, if_true, Sem.run_bind, (hE.ti _ _ hei).runSize, Result.andThen_ok, Sem.run_pure, add_mk, Int.toNat_natCast]
              simp [Nat.add_assoc]
            · cases hr
          · cases hr
        · rename_i e b o n c hd
          split at hr
          · rename_i hlt
            split at hr
            · rename_i ei hei
              simp only [Option.some.injEq] at hr; subst hr
              have hlt' : j < n := by simpa using hlt
              obtain ⟨r, ad, c', hrb, he, _, hor⟩ := hx'.inv_slc
              rcases hor with ⟨h0, _⟩ | ⟨ha, _⟩
              · omega
              · subst ha
                refine .same hw (run_v (v := .pointer (some ⟨r.blk, r.off + (o + j * ei.size), none⟩)) ?_) (.ptr _ _ r hrb)
                rw [hj', he]
                have hc : (0 : Int) ≤ (j : Int) ∧ (j : Int) < (n : Int) := ⟨by omega, by omega⟩
                simp only [Instr.indexAt, asIntOf, Sem.run_bind, Sem.run_pure, Result.andThen_ok, hti.runU, hd]
                simp only [hc, and_self, if_true, Sem.run_bind, (hE.ti _ _ hei).runSize, Result.andThen_ok, Sem.run_pure, add_mk, Int.toNat_natCast]
                simp [Nat.add_assoc]
            · cases hr
          · cases hr
        · cases hr
      · cases hr
    · cases hr
  · cases hr

theorem str_get {s : ByteArray} {l : List UInt8} (hs : s.data.toList = l) (j : Nat) : s[j]? = l[j]? := by
  subst hs
  by_cases h : j < s.size
  · rw [getElem?_pos s j h]
    have h' : j < s.data.size := h
    rw [Array.getElem?_toList, getElem?_pos s.data j h']
    rfl
  · rw [getElem?_neg s j h]
    have h' : ¬ j < s.data.size := h
    rw [Array.getElem?_toList, getElem?_neg s.data j h']

theorem oIndex_ok (hE : EnvOk P E) (hw : WRel E R h W) (hT : TR R T a.tmps) {t : TypeId} {x ix : Operand} {r : OR} (hr : oIndex E T t x ix h = some r) :
    OpSat P E R h W (do pure (.value (← Instr.index t (a.eval x) (a.eval ix)))) r := by
  unfold oIndex at hr
  split at hr
  · rename_i i hi
    have hti := hE.ti t i hi
    split at hr
    · rename_i v hx
      have hx' := eval_rel hT hx
      split at hr
      · rename_i k j hj
        have hj' := ofNat_int (eval_rel hT hj)
        split at hr
        · rename_i n e cs hd
          split at hr
          · rename_i hlt
            split at hr
            · rename_i ei hei
              split at hr
              · rename_i w hv
                simp only [Option.some.injEq] at hr; subst hr
                have hlt' : j < n := by simpa using hlt
                obtain ⟨cs', hcs, he⟩ := hx'.inv_agg
                obtain ⟨v', hrun, hvr⟩ := aPart_ok (W := W) hE hcs hv
                refine .same hw (run_v (v := v') ?_) hvr
                rw [hj', he]
                have hc : (0 : Int) ≤ (j : Int) ∧ (j : Int) < (n : Int) := ⟨by omega, by omega⟩
                simp only [Instr.index, asIntOf, Sem.run_bind, Sem.run_pure, Result.andThen_ok, hti.runU, hd]
                simp only [hc, and_self, if_true, Sem.run_bind, (hE.ti _ _ hei).runSize, Result.andThen_ok, Int.toNat_natCast, hrun]
              · cases hr
            · cases hr
          · cases hr
        · rename_i l hd
          split at hr
          · rename_i b hb
            simp only [Option.some.injEq] at hr; subst hr
            obtain ⟨s, hs, he⟩ := hx'.inv_str
            rw [nth_eq] at hb
            have hg := str_get hs j
            refine .same hw (run_v (v := .int .u8 b.toNat) ?_) (.int _ _)
            rw [hj', he]
            simp only [Instr.index, asIntOf, Sem.run_bind, Sem.run_pure, Result.andThen_ok, hti.runU, hd]
            rw [if_pos (by omega : (0 : Int) ≤ (j : Int)), Int.toNat_natCast, hg, hb]
            rfl
          · cases hr
        · cases hr
      · cases hr
    · cases hr
  · cases hr

/-- a bound of a slice expression -/
theorem bound_hi (hT : TR R T a.tmps) {x : Option Operand} {d m i m' : Nat} {code : BoundsCode} (hb : aBound T x d m = some i) (hm : m ≤ m') :
    (match x.map a.eval with | some v => Instr.sliceBound v m' code | none => pure d : Sem Nat).run P W = .ok i W := by
  unfold aBound at hb
  cases x with
  | none => simp only [Option.some.injEq] at hb; subst hb; rfl
  | some o =>
    simp only at hb
    split at hb
    · rename_i k j hj
      have hj' := ofNat_int (eval_rel hT hj)
      split at hb
      · rename_i hle
        simp only [Option.some.injEq] at hb; subst hb
        have hle' : j ≤ m := Nat.le_of_ble_eq_true hle
        simp only [Option.map_some, Instr.sliceBound, hj', asIntOf, Sem.run_bind, Sem.run_pure, Result.andThen_ok]
        rw [if_pos ⟨by omega, by omega⟩]
        simp
      · cases hb
    · cases hb

theorem bounds_run (hT : TR R T a.tmps) {lo hi : Option Operand} {len cap cap' e s : Nat} {isS : Bool} (hc : cap ≤ cap') (hb : aBound T hi len cap = some e) (hs : aBound T lo 0 e = some s) :
    (Instr.sliceBounds isS len cap' (lo.map a.eval) (hi.map a.eval) none).run P W = .ok (s, e, cap') W := by
  have h1 := bound_hi (P := P) (W := W) (code := if isS then .sliceAcap else .sliceAlen) hT hb hc
  have h2 := bound_hi (P := P) (W := W) (code := .sliceB) hT hs (Nat.le_refl _)
  unfold Instr.sliceBounds
  cases hi with
  | none =>
    simp only [Option.map_none] at h1 ⊢
    simp only [Sem.run_bind, Sem.run_pure, Result.andThen_ok]
    have : len = e := by simpa [aBound] using hb
    subst this
    cases lo with
    | none => simp only [Option.map_none] at h2 ⊢; simp only [Sem.run_bind, Sem.run_pure, Result.andThen_ok] at h2 ⊢; simp_all
    | some l => simp only [Option.map_some] at h2 ⊢; simp only [Option.isSome_none, Bool.false_eq_true, if_false, Sem.run_bind, h2, Result.andThen_ok, Sem.run_pure]
  | some hh =>
    simp only [Option.map_some] at h1 ⊢
    simp only [Sem.run_bind, Sem.run_pure, Result.andThen_ok]
    rw [h1]
    simp only [Result.andThen_ok]
    cases lo with
    | none => simp only [Option.map_none] at h2 ⊢; simp only [Sem.run_bind, Sem.run_pure, Result.andThen_ok] at h2 ⊢; simp_all
    | some l => simp only [Option.map_some] at h2 ⊢; simp only [Option.isSome_none, Bool.false_eq_true, if_false, Sem.run_bind, h2, Result.andThen_ok, Sem.run_pure]

theorem bound_le {x : Option Operand} {d m i : Nat} (hb : aBound T x d m = some i) (hd : d ≤ m) : i ≤ m := by
  unfold aBound at hb
  cases x with
  | none => simp only [Option.some.injEq] at hb; omega
  | some o =>
    simp only at hb
    split at hb
    · split at hb
      · rename_i hle; simp only [Option.some.injEq] at hb; subst hb; exact Nat.le_of_ble_eq_true hle
      · cases hb
    · cases hb

end
end Go.AE
