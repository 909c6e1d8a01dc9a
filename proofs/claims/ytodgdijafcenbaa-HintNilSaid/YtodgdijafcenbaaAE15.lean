import Derived.Test.YtodgdijafcenbaaAE14
namespace Go.AE
section
variable {P : Program} {E : Env} {R : RM} {h : AH} {W : World} {T : PT AV} {a : Act}

theorem aBuiltin_ok (hE : EnvOk P E) (hw : WRel E R h W) {b : Builtin} {argTypes : Array TypeId} {ty : TypeId} {consts : Array Bool} {args : List AV} {args' : List Value} (ha : VRs R args args') {r : OR}
    (hr : aBuiltin E b argTypes args h = some r) : OpSat P E R h W (builtin b argTypes ty consts ⟨args'⟩) r := by
  unfold aBuiltin at hr
  split at hr
  · rename_i s x
    cases ha with | cons _ s' _ _ hs ha => cases ha with | cons _ x' _ _ hx ha => cases ha; exact aAppend_ok hE hw hs hx hr
  · rename_i x
    cases ha with | cons _ x' _ _ hx ha =>
    cases ha
    split at hr
    · cases hr
    · rename_i t ht; exact aLen_ok hE hw ht hx hr
  · rename_i d s
    cases ha with | cons _ d' _ _ hd ha => cases ha with | cons _ s' _ _ hs ha =>
    cases ha
    split at hr
    · cases hr
    · rename_i t ht; exact aCopy_ok hE hw ht hd hs hr
  · rename_i x
    cases ha with | cons _ x' _ _ hx ha =>
    cases ha
    split at hr
    · cases hr
    · rename_i t ht; exact aClear_ok hE hw ht hx hr
  · rename_i m k
    cases ha with | cons _ m' _ _ hm ha => cases ha with | cons _ k' _ _ hk ha =>
    cases ha
    split at hr
    · cases hr
    · rename_i t ht; exact aDelete_ok hE hw ht hm hk hr
  · rename_i k x k' y
    cases ha with | cons _ x' _ _ hx ha => cases ha with | cons _ y' _ _ hy ha =>
    cases ha
    have := hx.inv_int; subst this
    have := hy.inv_int; subst this
    split at hr
    · rename_i hk
      have := kEq_eq hk; subst this
      simp only [Option.some.injEq] at hr; subst hr
      refine .same hw (v' := .int k (if y < x then y else x)) (run_v rfl) ?_
      rw [iLt_eq]
      by_cases hlt : y < x <;> simp [hlt] <;> exact .int _ _
    · cases hr
  · rename_i k x k' y
    cases ha with | cons _ x' _ _ hx ha => cases ha with | cons _ y' _ _ hy ha =>
    cases ha
    have := hx.inv_int; subst this
    have := hy.inv_int; subst this
    split at hr
    · rename_i hk
      have := kEq_eq hk; subst this
      simp only [Option.some.injEq] at hr; subst hr
      refine .same hw (v' := .int k (if y > x then y else x)) (run_v rfl) ?_
      rw [iLt_eq]
      by_cases hlt : x < y <;> simp [hlt] <;> exact .int _ _
    · cases hr
  · cases hr

theorem aExt_ok (hE : EnvOk P E) (hw : WRel E R h W) {f : Nat} {e : AExt} (he : E.ext f = some e) {args : List AV} {args' : List Value} (ha : VRs R args args') {r : OR} (hr : aExt e args h = some r) :
    OpSat P E R h W (callFunc f ⟨args'⟩) r := by
  unfold aExt at hr
  split at hr
  · rename_i x y
    simp only [Option.some.injEq] at hr; subst hr
    cases ha with | cons _ x' _ _ hx ha => cases ha with | cons _ y' _ _ hy ha =>
    cases ha
    obtain ⟨s, hs, e1⟩ := hx.inv_str; subst e1
    obtain ⟨u, hu, e2⟩ := hy.inv_str; subst e2
    refine .same hw (v' := .int .i64 (Lib.compareBytes s.data.toList u.data.toList)) ?_ ?_
    · rw [hE.ext f he]
      have := Lib.run_compareString (P := P) s u W
      rw [show (⟨[.string s, .string u]⟩ : Array Value) = #[.string s, .string u] from rfl, this]
      rfl
    · rw [hs, hu, cmpB_eq]; exact .int _ _
  · cases hr

theorem oCall_ok (hE : EnvOk P E) (hw : WRel E R h W) (hT : TR R T a.tmps) {c : Call} {ty : TypeId} {r : OR} (hr : oCall E T c h = some r) :
    OpSat P E R h W (do let d ← resolve a.eval c ty; invoke d.target d.args) r := by
  have hmap : c.args.map a.eval = ⟨c.args.toList.map a.eval⟩ := by apply Array.toList_inj.1; simp
  unfold oCall at hr
  split at hr
  · rename_i args hargs
    have ha := evals_rel hT hargs
    split at hr
    · rename_i b hb
      have := aBuiltin_ok (ty := ty) (consts := c.args.map fun | .const _ => true | _ => false) hE hw ha hr
      have e : (do let d ← resolve a.eval c ty; invoke d.target d.args : Sem Next) = builtin b c.argTypes ty (c.args.map fun | .const _ => true | _ => false) ⟨c.args.toList.map a.eval⟩ := by
        unfold resolve
        rw [hb, ← hmap]
        rfl
      rw [e]; exact this
    · rename_i fo hf
      split at hr
      · rename_i f first caps hfe
        obtain ⟨first', caps', hfi, hca, he⟩ := (eval_rel hT hfe).inv_fn
        have e : (do let d ← resolve a.eval c ty; invoke d.target d.args : Sem Next) = callFunc f ⟨first' ++ (c.args.toList.map a.eval ++ caps')⟩ := by
          unfold resolve
          rw [hf]
          simp only [he, hmap]
          show callFunc f (_ ++ _) = _
          congr 1
          apply Array.toList_inj.1
          simp
        have hall : VRs R (first ++ (args ++ caps)) (first' ++ (c.args.toList.map a.eval ++ caps')) := hfi.append (ha.append hca)
        rw [e]
        split at hr
        · rename_i g hg
          simp only [Option.some.injEq] at hr; subst hr
          exact ⟨_, hE.link f g hg _ _, hall⟩
        · split at hr
          · rename_i x hx
            exact aExt_ok hE hw hx hall hr
          · cases hr
      · cases hr
    · cases hr
  · cases hr

theorem aOp_ok (hE : EnvOk P E) (hw : WRel E R h W) (hT : TR R T a.tmps) {o : Oper} {r : OR} (hr : aOp E T o.op h = some r) : OpSat P E R h W (execOp a.eval o) r := by
  obtain ⟨dst, op, ty, pos, after, guard⟩ := o
  cases op <;> simp only [aOp, reduceCtorEq] at hr
  case move x => exact oMove_ok hw hT hr
  case assign x => exact oMove_ok hw hT hr
  case pick c x y => exact oPick_ok hw hT hr
  case alloc t => exact oNew_ok hw (fun _ _ hn => nAlloc_ok hE hn) hr
  case box t x => exact oNew_ok hw (fun _ _ hn => nBox_ok hT hn) hr
  case build t parts => exact oBuild_ok hE hw hT hr
  case buildSlice t len parts => exact oNew_ok hw (fun _ _ hn => nBuildSlice_ok hE hT hn) hr
  case insert t m k x => exact oUpdate_ok hE hw hT hr
  case load t x => exact oLoad_ok hE hw hT hr
  case store t x y => exact oStore_ok hE hw hT hr
  case nilCheck x => exact oNilCheck_ok hw hT rfl hr
  case binOp op t x y yt => exact oBin_ok hE hw hT hr
  case unOp op t x => exact oUn_ok hw hT hr
  case convert s d x => exact oConv_ok hE hw hT hr
  case makeFunc fn first captured => exact oMakeFunc_ok hw hT hr
  case makeMap t r => exact oNew_ok hw (fun _ _ hn => nMakeMap_ok hE hT hn) hr
  case makeSlice t l c => exact oNew_ok hw (fun _ _ hn => nMakeSlice_ok hE hT hn) hr
  case slice t x lo hi mx =>
    cases mx with
    | some _ => simp at hr
    | none => exact oSlice_ok hE hw hT hr
  case fieldAddr s x f => exact oFieldAddr_ok hE hw hT hr
  case field t x f => exact oField_ok hE hw hT hr
  case indexAddr t x ix => exact oIndexAddr_ok hE hw hT hr
  case index t x ix => exact oIndex_ok hE hw hT hr
  case lookup t x k ok => exact oLookup_ok hE hw hT hr
  case mapUpdate t m k x => exact oUpdate_ok hE hw hT hr
  case extract t ix => exact oExtract_ok hw hT hr
  case call c => exact oCall_ok hE hw hT hr

end
end Go.AE
