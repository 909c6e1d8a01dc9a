import Derived.Test.YtodgdijafcenbaaAE15
namespace Go.AE

/-! ### what an operation reads -/
def sameAt (T T' : PT AV) (l : List Nat) : Prop := ∀ t, memN t l = true → T.get t = T'.get t

theorem memN_iff (n : Nat) : ∀ l : List Nat, memN n l = true ↔ n ∈ l
  | [] => by simp [memN]
  | m :: l => by
    simp only [memN, List.mem_cons]
    cases h : Nat.beq n m with
    | true => simp [Nat.eq_of_beq_eq_true h]
    | false =>
      have : n ≠ m := fun e => by subst e; simp at h
      simp [this, memN_iff n l]

theorem tmpsOf_mem {t : Nat} : ∀ {l : List Operand}, Operand.tmp t ∈ l → t ∈ tmpsOf l
  | .tmp u :: l, h => by
    rcases List.mem_cons.1 h with e | e
    · simp only [Operand.tmp.injEq] at e; subst e; simp [tmpsOf]
    · simp [tmpsOf, tmpsOf_mem e]
  | .const c :: l, h => by
    rcases List.mem_cons.1 h with e | e
    · cases e
    · simp only [tmpsOf]; exact tmpsOf_mem e
  | .global g :: l, h => by
    rcases List.mem_cons.1 h with e | e
    · cases e
    · simp only [tmpsOf]; exact tmpsOf_mem e
  | .func f :: l, h => by
    rcases List.mem_cons.1 h with e | e
    · cases e
    · simp only [tmpsOf]; exact tmpsOf_mem e

/-- two frames agree on operands -/
def agree (T T' : PT AV) (l : List Operand) : Prop := ∀ x ∈ l, aEval T x = aEval T' x
theorem agree_of {T T' : PT AV} {l : List Operand} (h : ∀ t ∈ tmpsOf l, T.get t = T'.get t) : agree T T' l := by
  intro x hx
  cases x with
  | tmp t => exact h t (tmpsOf_mem hx)
  | _ => rfl

theorem evals_congr {T T' : PT AV} : ∀ {l : List Operand}, agree T T' l → aEvals T l = aEvals T' l
  | [], _ => rfl
  | x :: l, h => by
    have h1 := h x (by simp)
    have h2 := evals_congr (T := T) (T' := T') (l := l) fun y hy => h y (by simp [hy])
    simp only [aEvals, h1, h2]
theorem parts_congr {T T' : PT AV} : ∀ {l : List (Nat × Operand)}, agree T T' (l.map (·.2)) → aParts T l = aParts T' l
  | [], _ => rfl
  | (i, x) :: l, h => by
    have h1 := h x (by simp)
    have h2 := parts_congr (T := T) (T' := T') (l := l) fun y hy => h y (by simp only [List.map_cons, List.mem_cons]; exact .inr hy)
    simp only [aParts, h1, h2]
theorem bound_congr {T T' : PT AV} {x : Option Operand} {d m : Nat} (h : ∀ y, x = some y → aEval T y = aEval T' y) : aBound T x d m = aBound T' x d m := by
  cases x with
  | none => rfl
  | some o => simp only [aBound, h o rfl]

theorem aNew_congr {E : Env} {T T' : PT AV} {op : Op} (h : agree T T' op.operands.toList) : aNew E T op = aNew E T' op := by
  cases op <;> simp only [aNew]
  case box t x => simp only [nBox, h x (by simp [Op.operands])]
  case buildSlice t len parts => simp only [nBuildSlice, parts_congr (l := parts.toList) (T := T) (T' := T') (by simpa [Op.operands] using h)]
  case makeMap t r =>
    cases r with
    | none => rfl
    | some x => simp only [nMakeMap, h x (by simp [Op.operands])]
  case makeSlice t l c => simp only [nMakeSlice, h l (by simp [Op.operands]), h c (by simp [Op.operands])]

theorem aOp_congr {E : Env} {T T' : PT AV} {op : Op} {h : AH} (hg : agree T T' op.operands.toList) : aOp E T op h = aOp E T' op h := by
  have hn := aNew_congr (E := E) hg
  cases op <;> simp only [aOp] <;> simp only [aNew] at hn
  case move x => simp only [oMove, hg x (by simp [Op.operands])]
  case assign x => simp only [oMove, hg x (by simp [Op.operands])]
  case pick c x y => simp only [oPick, hg c (by simp [Op.operands]), hg x (by simp [Op.operands]), hg y (by simp [Op.operands])]
  case box t x => rw [hn]
  case buildSlice t len parts => rw [hn]
  case makeMap t r => rw [hn]
  case makeSlice t l c => rw [hn]
  case build t parts => simp only [oBuild, parts_congr (l := parts.toList) (T := T) (T' := T') (by simpa [Op.operands] using hg)]
  case insert t m k x => simp only [oUpdate, hg m (by simp [Op.operands]), hg k (by simp [Op.operands]), hg x (by simp [Op.operands])]
  case mapUpdate t m k x => simp only [oUpdate, hg m (by simp [Op.operands]), hg k (by simp [Op.operands]), hg x (by simp [Op.operands])]
  case load t x => simp only [oLoad, hg x (by simp [Op.operands])]
  case store t x y => simp only [oStore, hg x (by simp [Op.operands]), hg y (by simp [Op.operands])]
  case nilCheck x => simp only [oNilCheck, hg x (by simp [Op.operands])]
  case binOp op t x y yt => simp only [oBin, hg x (by simp [Op.operands]), hg y (by simp [Op.operands])]
  case unOp op t x => simp only [oUn, hg x (by simp [Op.operands])]
  case convert s d x => simp only [oConv, hg x (by simp [Op.operands])]
  case makeFunc fn first captured =>
    have h1 := evals_congr (T := T) (T' := T') (l := first.toList) fun y hy => hg y (by simp [Op.operands]; exact .inl (by simpa using hy))
    have h2 := evals_congr (T := T) (T' := T') (l := captured.toList) fun y hy => hg y (by simp [Op.operands]; exact .inr (by simpa using hy))
    simp only [oMakeFunc, h1, h2]
  case slice t x lo hi mx =>
    cases mx with
    | some _ => rfl
    | none =>
      have hb : ∀ d m, aBound T lo d m = aBound T' lo d m := fun d m => bound_congr fun y hy => hg y (by subst hy; simp [Op.operands])
      have hb2 : ∀ d m, aBound T hi d m = aBound T' hi d m := fun d m => bound_congr fun y hy => hg y (by subst hy; simp [Op.operands])
      simp only [oSlice, hg x (by simp [Op.operands]), hb, hb2]
  case fieldAddr s x f => simp only [oFieldAddr, hg x (by simp [Op.operands])]
  case field t x f => simp only [oField, hg x (by simp [Op.operands])]
  case indexAddr t x ix => simp only [oIndexAddr, hg x (by simp [Op.operands]), hg ix (by simp [Op.operands])]
  case index t x ix => simp only [oIndex, hg x (by simp [Op.operands]), hg ix (by simp [Op.operands])]
  case lookup t x k ok => simp only [oLookup, hg x (by simp [Op.operands]), hg k (by simp [Op.operands])]
  case extract t ix => simp only [oExtract, hg t (by simp [Op.operands])]
  case call c =>
    have h1 := evals_congr (T := T) (T' := T') (l := c.args.toList) fun y hy => hg y (by simp [Op.operands, Call.operands]; exact .inr (by simpa using hy))
    cases hc : c.callee with
    | builtin b => simp only [oCall, h1, hc]
    | value f =>
      have h2 := hg f (by simp [Op.operands, Call.operands, hc])
      simp only [oCall, h1, hc, h2]
    | invoke r m => simp only [oCall, h1, hc]

end Go.AE
