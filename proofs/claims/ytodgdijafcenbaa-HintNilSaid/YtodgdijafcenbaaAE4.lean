import Derived.Test.YtodgdijafcenbaaAE3
import Derived.Lib.Bytealg
namespace Go.AE

/-! ### what Env says holds of the program -/
structure TIOk (P : Program) (t : TypeId) (i : TI) : Prop where
  u : P.underlying t = some i.d
  info : ∃ f, P.info? t = some f ∧ f.size = i.size ∧ f.bytes = i.bytes ∧
    ∀ z, i.zero = some z → ∃ zv, f.zero = some zv ∧ ofVs zv.cells.toList = some z ∧ allLe AV.one z = true ∧ z.length = i.size ∧ (if i.zagg then ∃ cs, zv = .agg cs else zv.cells = #[zv])
  eqg : i.eqg = false → P.eqGuardType P.depth t = false
  stood : i.stood = false → P.stoodInHeld t = false
  fields : ∀ fs, i.d = .struct fs → ∃ places, fs.toList.mapM (fun f => (P.info? f.type).map fun i => (f.offset, i.size)) = some places

def dstOk (n : Nat) : List Oper → Bool
  | [] => true
  | o :: l => match o.dst with
    | none => dstOk n l
    | some d => match Nat.blt d n with
      | true => dstOk n l
      | false => false

def codeOk (n : Nat) : Code → Bool
  | .region _ ops _ => dstOk n ops.toList
  | .seq a b => codeOk n a && codeOk n b
  | .cond _ a b => codeOk n a && codeOk n b
  | .block _ c => codeOk n c
  | .loop c => codeOk n c
  | _ => true

structure EnvOk (P : Program) (E : Env) : Prop where
  ti : ∀ t i, E.ti t = some i → TIOk P t i
  fn : ∀ f fi, E.fn f = some fi → ∃ fn, P.funcs[f]? = some fn ∧ fn.body = some fi.body ∧ fn.ntmps = fi.ntmps ∧ fn.results = ⟨fi.results⟩ ∧ codeOk fi.ntmps fi.body = true
  link : ∀ f g, E.link f = some g → ∀ args W, (callFunc f args).run P W = .ok (.enter g args) W
  ext : ∀ f, E.ext f = some .cmp → ∀ args W, (callFunc f args).run P W = ((Extern.BytealgCompare.compare args).run P W).andThen fun v w => .ok (.value v) w
  mixed : P.follows .mixedOrders = true

section
variable {P : Program} {W : World} {t : TypeId} {i : TI}
theorem TIOk.runU (h : TIOk P t i) : (underlying t).run P W = .ok i.d W := by
  unfold underlying; simp [h.u]
theorem TIOk.runSize (h : TIOk P t i) : (sizeOf t).run P W = .ok i.size W := by
  obtain ⟨f, hf, hs, _⟩ := h.info
  unfold sizeOf typeInfo; simp [hf, hs]
theorem TIOk.runAgg (h : TIOk P t i) : (isAgg t).run P W = .ok (isAggD i.d) W := by
  unfold isAgg
  simp only [Sem.run_bind, h.runU, Result.andThen_ok]
  cases i.d <;> rfl
theorem TIOk.runInfo (h : TIOk P t i) : ∃ f, P.info? t = some f ∧ (typeInfo t).run P W = .ok f W ∧ f.size = i.size ∧ f.bytes = i.bytes := by
  obtain ⟨f, hf, hs, hb, _⟩ := h.info
  exact ⟨f, hf, by unfold typeInfo; simp [hf], hs, hb⟩
end

/-! ### constants and operands -/
theorem ofV1_rel {R : RM} {v : Value} {x : AV} (h : ofV1 v = some x) : VR R x v := by
  unfold ofV1 at h
  split at h <;> simp only [Option.some.injEq, reduceCtorEq] at h <;> subst h
  · exact .bool _
  · exact .int _ _
  · exact .str _ _ rfl
  · exact .nilp
  · exact .nils
  · exact .nilm
  · exact .nilf
  · exact .nili

theorem ofVs_rel {R : RM} : ∀ {l : List Value} {x : List AV}, ofVs l = some x → VRs R x l
  | [], x, h => by simp [ofVs] at h; subst h; exact .nil
  | v :: l, x, h => by
    simp only [ofVs] at h
    cases h1 : ofV1 v with
    | none => rw [h1] at h; simp at h
    | some a =>
      rw [h1] at h
      simp only at h
      cases h2 : ofVs l with
      | none => rw [h2] at h; simp at h
      | some r =>
        rw [h2] at h
        simp only [Option.some.injEq] at h
        subst h
        exact .cons _ _ _ _ (ofV1_rel h1) (ofVs_rel h2)

theorem ofV_rel {R : RM} {v : Value} {x : AV} (h : ofV v = some x) : VR R x v := by
  unfold ofV at h
  split at h
  · rename_i cs
    split at h
    · rename_i l hl
      simp only [Option.some.injEq] at h; subst h
      have := ofVs_rel (R := R) hl
      cases cs; exact .agg _ _ this
    · cases h
  · rename_i cs
    split at h
    · rename_i l hl
      simp only [Option.some.injEq] at h; subst h
      have := ofVs_rel (R := R) hl
      cases cs; exact .tup _ _ this
    · cases h
  · exact ofV1_rel h

/-- the slots -/
def TR (R : RM) (T : PT AV) (tmps : Array Value) : Prop := ∀ t v, T.get t = some v → ∃ v', tmps[t]? = some v' ∧ VR R v v'
theorem TR.mono {R R' : RM} {T : PT AV} {tmps : Array Value} (h : TR R T tmps) (hle : RM.le R R') : TR R' T tmps := fun t v e => let ⟨v', a, b⟩ := h t v e; ⟨v', a, b.mono hle⟩

theorem eval_rel {R : RM} {T : PT AV} {a : Act} (hT : TR R T a.tmps) {x : Operand} {v : AV} (h : aEval T x = some v) : VR R v (a.eval x) := by
  cases x with
  | tmp t =>
    obtain ⟨v', e, hv⟩ := hT t v h
    simp only [Act.eval, Array.getD_eq_getD_getElem?, e]; exact hv
  | const c => exact ofV_rel h
  | global g => simp [aEval] at h
  | func f => simp only [aEval, Option.some.injEq] at h; subst h; exact .fn _ _ _ _ _ .nil .nil

theorem evals_rel {R : RM} {T : PT AV} {a : Act} (hT : TR R T a.tmps) : ∀ {l : List Operand} {vs : List AV}, aEvals T l = some vs → VRs R vs (l.map a.eval)
  | [], vs, h => by simp [aEvals] at h; subst h; exact .nil
  | x :: l, vs, h => by
    simp only [aEvals] at h
    cases h1 : aEval T x with
    | none => rw [h1] at h; simp at h
    | some v =>
      rw [h1] at h; simp only at h
      cases h2 : aEvals T l with
      | none => rw [h2] at h; simp at h
      | some r =>
        rw [h2] at h; simp only [Option.some.injEq] at h; subst h
        exact .cons _ _ _ _ (eval_rel hT h1) (evals_rel hT h2)

/-! ### what an operation comes to -/
def OpSat (P : Program) (E : Env) (R : RM) (h : AH) (W : World) (s : Sem Next) : OR → Prop
  | .val v h' => ∃ v' W' R', (s.run P W = .ok (.value v') W' ∨ (s.run P W = .ok .skip W' ∧ v' = Go.undef)) ∧ VR R' v v' ∧ WRel E R' h' W' ∧ ∀ n0, n0 ≤ h.n → Ext n0 R h W R' h' W'
  | .enter f args => ∃ args', s.run P W = .ok (.enter f ⟨args'⟩) W ∧ VRs R args args'

/-- a value, the heap as it was -/
theorem OpSat.same {P : Program} {E : Env} {R : RM} {h : AH} {W : World} {s : Sem Next} {v : AV} {v' : Value} (a : WRel E R h W) (hr : s.run P W = .ok (.value v') W) (hv : VR R v v') : OpSat P E R h W s (.val v h) :=
  ⟨v', W, R, .inl hr, hv, a, fun n0 _ => .refl n0 _ _ _⟩

theorem run_v {P : Program} {W W' : World} {s : Sem Value} {v : Value} (h : s.run P W = .ok v W') : (do pure (Next.value (← s)) : Sem Next).run P W = .ok (.value v) W' := by
  simp [h]

section
variable {P : Program} {E : Env} {R : RM} {h : AH} {W : World} {T : PT AV} {a : Act}

theorem loadVar_rel (hE : EnvOk P E) (hw : WRel E R h W) {t : TypeId} {b o : Nat} {v : AV} {r : Reg} (hr : R b = some r) (hl : aLoad E t h b o = some v) :
    ∃ v', (loadVar t ⟨r.blk, r.off + o, none⟩).run P W = .ok v' W ∧ VR R v v' := by
  unfold aLoad at hl
  split at hl
  · rename_i i hi
    have hti := hE.ti t i hi
    unfold loadVar
    simp only [Sem.run_bind, hti.runAgg, Result.andThen_ok]
    split at hl
    · rename_i hagg
      rw [if_pos hagg]
      split at hl
      · rename_i l hl'
        simp only [Option.some.injEq] at hl; subst hl
        obtain ⟨l', hvs, hlen, hc⟩ := loadN_rel hw hr hl'
        refine ⟨.agg ⟨l'⟩, ?_, .agg _ _ hvs⟩
        have := run_loadCells_list (P := P) W ⟨r.blk, r.off + o, none⟩ l' (fun j v hj => by rw [add_mk]; exact hc j v hj)
        rw [hlen] at this
        simp [hti.runSize, this]
      · cases hl
    · rename_i hagg
      rw [if_neg (by simp [hagg])]
      obtain ⟨v', hc, hv⟩ := load1_rel hw hr hl
      exact ⟨v', by simp [hc], hv⟩
  · cases hl

theorem oMove_ok (hw : WRel E R h W) (hT : TR R T a.tmps) {x : Operand} {r : OR} (hr : oMove T x h = some r) : OpSat P E R h W (pure (.value (a.eval x))) r := by
  unfold oMove at hr
  split at hr
  · rename_i v hv
    simp only [Option.some.injEq] at hr; subst hr
    exact .same hw rfl (eval_rel hT hv)
  · cases hr

theorem oPick_ok (hw : WRel E R h W) (hT : TR R T a.tmps) {c x y : Operand} {r : OR} (hr : oPick T c x y h = some r) :
    OpSat P E R h W (do pure (.value (if ← asBool (a.eval c) then a.eval x else a.eval y))) r := by
  unfold oPick at hr
  split at hr
  · rename_i hc
    have hc' := eval_rel hT hc
    split at hr
    · rename_i v hv
      simp only [Option.some.injEq] at hr; subst hr
      refine .same hw ?_ (eval_rel hT hv)
      generalize a.eval c = q at *; cases hc'; simp [asBool]
    · cases hr
  · rename_i hc
    have hc' := eval_rel hT hc
    split at hr
    · rename_i v hv
      simp only [Option.some.injEq] at hr; subst hr
      refine .same hw ?_ (eval_rel hT hv)
      generalize a.eval c = q at *; cases hc'; simp [asBool]
    · cases hr
  · cases hr

theorem oLoad_ok (hE : EnvOk P E) (hw : WRel E R h W) (hT : TR R T a.tmps) {t : TypeId} {x : Operand} {r : OR} (hr : oLoad E T t x h = some r) :
    OpSat P E R h W (do pure (.value (← Instr.loadAt t (a.eval x)))) r := by
  unfold oLoad at hr
  split at hr
  · rename_i b o hx
    have hx' := eval_rel hT hx
    split at hr
    · rename_i v hv
      simp only [Option.some.injEq] at hr; subst hr
      generalize a.eval x = q at *
      cases hx' with
      | ptr _ _ r hrb =>
        obtain ⟨v', hrun, hvr⟩ := loadVar_rel hE hw hrb hv
        exact .same hw (run_v (by simp [Instr.loadAt, Instr.sureAddr, hrun])) hvr
    · cases hr
  · cases hr

theorem oStore_ok (hE : EnvOk P E) (hw : WRel E R h W) (hT : TR R T a.tmps) {t : TypeId} {x y : Operand} {r : OR} (hr : oStore E T t x y h = some r) :
    OpSat P E R h W (do Instr.storeAt t (a.eval x) (a.eval y); pure .skip) r := by
  unfold oStore at hr
  split at hr
  · rename_i b o hx
    have hx' := eval_rel hT hx
    split at hr
    · rename_i v hv
      have hv' := eval_rel hT hv
      split at hr
      · rename_i i hi
        have hti := hE.ti t i hi
        split at hr
        · rename_i hsz
          split at hr
          · rename_i hone
            split at hr
            · rename_i h' hs
              simp only [Option.some.injEq] at hr; subst hr
              generalize a.eval x = q at *
              generalize a.eval y = z at *
              cases hx' with
              | ptr _ _ r hrb =>
                have hcs := hv'.cells
                obtain ⟨hrun, hw', hext⟩ := store_rel (P := P) hw hrb hs hcs (allLe_one hcs hone)
                have hlen : z.cells.size = i.size := by
                  have h2 : v.cells.length = i.size := by simpa using hsz
                  rw [← Array.length_toList, ← hcs.length]; exact h2
                refine ⟨Go.undef, _, R, .inr ⟨?_, rfl⟩, VR.undef R, hw', fun n0 _ => hext n0⟩
                simp only [Instr.storeAt, Instr.sureAddr, storeVar, Sem.run_bind, Sem.run_pure, Result.andThen_ok, hti.runSize, hlen]
                simp [hrun]
            · cases hr
          · cases hr
        · cases hr
      · cases hr
    · cases hr
  · cases hr

theorem oNilCheck_ok (hw : WRel E R h W) (hT : TR R T a.tmps) {x : Operand} {o : Oper} (ho : o.op = .nilCheck x) {r : OR} (hr : oNilCheck T x h = some r) :
    OpSat P E R h W (execOp a.eval o) r := by
  unfold oNilCheck at hr
  split at hr
  · rename_i b o' hx
    have hx' := eval_rel hT hx
    simp only [Option.some.injEq] at hr; subst hr
    refine .same hw ?_ hx'
    obtain ⟨r, _, he⟩ := hx'.inv_ptr
    simp only [execOp, ho, he]; rfl
  · rename_i f fs cs hx
    have hx' := eval_rel hT hx
    simp only [Option.some.injEq] at hr; subst hr
    refine .same hw ?_ hx'
    obtain ⟨x', y', _, _, he⟩ := hx'.inv_fn
    simp only [execOp, ho, he]; rfl
  · cases hr

theorem oFieldAddr_ok (hE : EnvOk P E) (hw : WRel E R h W) (hT : TR R T a.tmps) {s : TypeId} {x : Operand} {f : Nat} {r : OR} (hr : oFieldAddr E T s x f h = some r) :
    OpSat P E R h W (do pure (.value (← Instr.fieldAt s (a.eval x) f))) r := by
  unfold oFieldAddr at hr
  split at hr
  · rename_i i hi
    have hti := hE.ti s i hi
    split at hr
    · rename_i b o hx
      have hx' := eval_rel hT hx
      split at hr
      · rename_i fs hd
        split at hr
        · rename_i fl hf
          split at hr
          · rename_i fi hfi
            split at hr
            · cases hr
            · rename_i m hm
              simp only [Option.some.injEq] at hr; subst hr
              obtain ⟨r, hrb, he⟩ := hx'.inv_ptr
              refine .same hw (run_v (v := .pointer (some ⟨r.blk, r.off + (o + fl.offset), none⟩)) ?_) (.ptr _ _ r hrb)
              have hf' : fs[f]? = some fl := by rw [nth_eq] at hf; simpa using hf
              simp [he, Instr.fieldAt, hti.runU, hd, hf', Instr.sureAddr, fieldPlace, add_mk, Nat.add_assoc, (hE.ti _ _ hfi).runSize, hm]
          · cases hr
        · cases hr
      · cases hr
    · cases hr
  · cases hr

end
end Go.AE
