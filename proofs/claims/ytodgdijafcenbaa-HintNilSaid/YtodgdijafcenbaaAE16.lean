import Derived.Test.YtodgdijafcenbaaAE16a
namespace Go.AE
section
variable {P : Program} {E : Env} {R : RM} {h h2 : AH} {W : World} {T : PT AV} {a : Act}

/-! ### operations that only read -/
/-- all that lies in h lies in h2 -/
def AH.sub (h h2 : AH) : Prop := ∀ id b, h.h.get id = some b → h2.h.get id = some b

theorem load1_sub (hs : AH.sub h h2) {b o : Nat} {v : AV} (hl : h.load1 b o = some v) : h2.load1 b o = some v := by
  unfold AH.load1 at hl ⊢
  cases hg : h.h.get b with
  | none => rw [hg] at hl; cases hl
  | some x => rw [hg] at hl; rw [hs _ _ hg]; exact hl
theorem loadN_sub (hs : AH.sub h h2) {b o n : Nat} {v : List AV} (hl : h.loadN b o n = some v) : h2.loadN b o n = some v := by
  unfold AH.loadN at hl ⊢
  cases hg : h.h.get b with
  | none => rw [hg] at hl; cases hl
  | some x => rw [hg] at hl; rw [hs _ _ hg]; exact hl
theorem aLoad_sub (hs : AH.sub h h2) {t : TypeId} {b o : Nat} {v : AV} (hl : aLoad E t h b o = some v) : aLoad E t h2 b o = some v := by
  unfold aLoad at hl ⊢
  cases hi : E.ti t with
  | none => rw [hi] at hl; cases hl
  | some i =>
    rw [hi] at hl
    cases hg : isAggD i.d with
    | true =>
      simp only [hg] at hl ⊢
      cases hl' : h.loadN b o i.size with
      | none => rw [hl'] at hl; cases hl
      | some l => rw [hl'] at hl; rw [loadN_sub hs hl']; exact hl
    | false =>
      simp only [hg] at hl ⊢
      exact load1_sub hs hl
theorem mapEs_sub (hs : AH.sub h h2) {m : AV} {es : List (AV × AV)} (hl : mapEs h m = some es) : mapEs h2 m = some es := by
  unfold mapEs at hl ⊢
  split at hl
  · exact hl
  · rename_i r
    cases hg : h.h.get r with
    | none => rw [hg] at hl; cases hl
    | some x => rw [hg] at hl; rw [hs _ _ hg]; exact hl
  · cases hl
theorem strideOk_sub (hs : AH.sub h h2) {b n : Nat} (hl : strideOk E h b n = true) : strideOk E h2 b n = true := by
  unfold strideOk at hl ⊢
  cases hg : h.h.get b with
  | none => rw [hg] at hl; cases hl
  | some x => rw [hg] at hl; rw [hs _ _ hg]; exact hl

theorem aLen_rd {t : TypeId} {x : AV} {r : OR} (hr : aLen E t x h = some r) : ∃ v, r = .val v h ∧ ∀ h2, AH.sub h h2 → aLen E t x h2 = some (.val v h2) := by
  unfold aLen at hr ⊢
  split at hr
  · cases hr
  · split at hr
    · simp only [Option.some.injEq] at hr; exact ⟨_, hr.symm, fun h2 _ => by simp only [*]⟩
    · simp only [Option.some.injEq] at hr; exact ⟨_, hr.symm, fun h2 _ => by simp only [*]⟩
    · simp only [Option.some.injEq] at hr; exact ⟨_, hr.symm, fun h2 _ => by simp only [*]⟩
    · simp only [Option.some.injEq] at hr; exact ⟨_, hr.symm, fun h2 _ => by simp only [*]⟩
    · split at hr
      · rename_i hes
        simp only [Option.some.injEq] at hr; exact ⟨_, hr.symm, fun h2 hs => by simp only [*, mapEs_sub hs hes]⟩
      · cases hr
    · cases hr

/-- what a reading operation gives: the heap as it was; and it gives the same wherever all that lies here lies -/
def RdOk (E : Env) (T : PT AV) (op : Op) (h : AH) (r : OR) : Prop := ∃ v, r = .val v h ∧ ∀ h2, AH.sub h h2 → aOp E T op h2 = some (.val v h2)

theorem rd_ok {op : Op} (hc : clsOf E op = .rd) {r : OR} (hr : aOp E T op h = some r) : RdOk E T op h r := by
  unfold clsOf at hc
  cases op <;> simp only [reduceCtorEq] at hc <;> simp only [aOp] at hr <;> unfold RdOk <;> simp only [aOp]
  case move x =>
    unfold oMove at hr ⊢
    split at hr
    · simp only [Option.some.injEq] at hr; exact ⟨_, hr.symm, fun h2 _ => rfl⟩
    · cases hr
  case pick c x y =>
    unfold oPick at hr ⊢
    split at hr
    · split at hr
      · simp only [Option.some.injEq] at hr; exact ⟨_, hr.symm, fun h2 _ => rfl⟩
      · cases hr
    · split at hr
      · simp only [Option.some.injEq] at hr; exact ⟨_, hr.symm, fun h2 _ => rfl⟩
      · cases hr
    · cases hr
  case build t parts =>
    unfold oBuild at hr ⊢
    (repeat' split at hr) <;> first | (cases hr; done) | (simp only [Option.some.injEq] at hr; exact ⟨_, hr.symm, fun h2 _ => by simp only [*]⟩)
  case load t x =>
    unfold oLoad at hr ⊢
    split at hr
    · split at hr
      · rename_i hl
        simp only [Option.some.injEq] at hr
        exact ⟨_, hr.symm, fun h2 hs => by simp only [aLoad_sub hs hl]⟩
      · cases hr
    · cases hr
  case nilCheck x =>
    unfold oNilCheck at hr ⊢
    split at hr
    · simp only [Option.some.injEq] at hr; exact ⟨_, hr.symm, fun h2 _ => rfl⟩
    · simp only [Option.some.injEq] at hr; exact ⟨_, hr.symm, fun h2 _ => rfl⟩
    · cases hr
  case binOp op t x y yt =>
    unfold oBin at hr ⊢
    (repeat' split at hr) <;> first | (cases hr; done) | (simp only [Option.some.injEq] at hr; exact ⟨_, hr.symm, fun h2 _ => by simp only [*]⟩)
  case unOp op t x =>
    unfold oUn at hr ⊢
    (repeat' split at hr) <;> first | (cases hr; done) | (simp only [Option.some.injEq] at hr; exact ⟨_, hr.symm, fun h2 _ => by simp only [*]⟩)
  case convert s d x =>
    unfold oConv at hr ⊢
    split at hr
    · rename_i v hv
      unfold aConv at hr ⊢
      split at hr
      · rename_i si di hs hd
        rw [hd] at hc
        simp only at hc ⊢
        split at hr
        · simp only [Option.some.injEq] at hr; exact ⟨_, hr.symm, fun h2 _ => by simp only [*]⟩
        · simp only [Option.some.injEq] at hr; exact ⟨_, hr.symm, fun h2 _ => by simp only [*]⟩
        · rename_i hdd; rw [hdd] at hc; cases hc
        · split at hr
          · split at hr
            · split at hr
              · simp only [Option.some.injEq] at hr; exact ⟨_, hr.symm, fun h2 _ => by simp only [*]⟩
              · split at hr
                · rename_i hl
                  split at hr
                  · simp only [Option.some.injEq] at hr; exact ⟨_, hr.symm, fun h2 hs2 => by simp only [*, loadN_sub hs2 hl]⟩
                  · cases hr
                · cases hr
              · cases hr
            · cases hr
          · cases hr
        · cases hr
      · cases hr
    · cases hr
  case makeFunc fn first captured =>
    unfold oMakeFunc at hr ⊢
    (repeat' split at hr) <;> first | (cases hr; done) | (simp only [Option.some.injEq] at hr; exact ⟨_, hr.symm, fun h2 _ => by simp only [*]⟩)
  case slice t x lo hi mx =>
    cases mx with
    | some _ => simp at hr
    | none =>
      simp only at hr ⊢
      unfold oSlice at hr ⊢
      (repeat' split at hr) <;> first
        | (cases hr; done)
        | (simp only [Option.some.injEq] at hr
           refine ⟨_, hr.symm, fun h2 hs2 => ?_⟩
           first | (simp only [*]; done) | (rename_i hst; simp only [*, strideOk_sub hs2 hst]))
  case fieldAddr s x f =>
    unfold oFieldAddr at hr ⊢
    (repeat' split at hr) <;> first | (cases hr; done) | (simp only [Option.some.injEq] at hr; exact ⟨_, hr.symm, fun h2 _ => by simp only [*]⟩)
  case field t x f =>
    unfold oField at hr ⊢
    (repeat' split at hr) <;> first | (cases hr; done) | (simp only [Option.some.injEq] at hr; exact ⟨_, hr.symm, fun h2 _ => by simp only [*]⟩)
  case indexAddr t x ix =>
    unfold oIndexAddr at hr ⊢
    (repeat' split at hr) <;> first | (cases hr; done) | (simp only [Option.some.injEq] at hr; exact ⟨_, hr.symm, fun h2 _ => by simp only [*]⟩)
  case index t x ix =>
    unfold oIndex at hr ⊢
    (repeat' split at hr) <;> first | (cases hr; done) | (simp only [Option.some.injEq] at hr; exact ⟨_, hr.symm, fun h2 _ => by simp only [*]⟩)
  case lookup t x k ok =>
    unfold oLookup at hr ⊢
    split at hr <;> try (cases hr; done)
    split at hr <;> try (cases hr; done)
    split at hr <;> try (cases hr; done)
    split at hr <;> try (cases hr; done)
    split at hr <;> try (cases hr; done)
    split at hr <;> try (cases hr; done)
    split at hr <;> try (cases hr; done)
    rename_i es hes
    (repeat' split at hr) <;> first | (cases hr; done) | (simp only [Option.some.injEq] at hr; exact ⟨_, hr.symm, fun h2 hs2 => by simp only [*, mapEs_sub hs2 hes]⟩)
  case extract t ix =>
    unfold oExtract at hr ⊢
    (repeat' split at hr) <;> first | (cases hr; done) | (simp only [Option.some.injEq] at hr; exact ⟨_, hr.symm, fun h2 _ => by simp only [*]⟩)
  case call c =>
    unfold oCall at hr ⊢
    split at hr
    · rename_i args hargs
      cases hcal : c.callee with
      | invoke r m => rw [hcal] at hr; cases hr
      | value f => rw [hcal] at hc; cases hc
      | builtin b =>
        rw [hcal] at hr hc
        simp only at hr hc ⊢
        cases b <;> simp only [reduceCtorEq] at hc
        case len =>
          cases args with
          | nil => simp only [aBuiltin, reduceCtorEq] at hr
          | cons x l => cases l with
            | cons y l => simp only [aBuiltin, reduceCtorEq] at hr
            | nil =>
              simp only [aBuiltin] at hr ⊢
              split at hr
              · cases hr
              · rename_i t ht
                obtain ⟨v, e, hv⟩ := aLen_rd hr
                exact ⟨v, e, fun h2 hs => by simp only [hv h2 hs]⟩
        case min =>
          rcases args with _ | ⟨x, _ | ⟨y, _ | ⟨z, l⟩⟩⟩ <;> try (simp [aBuiltin] at hr; done)
          cases x <;> try (simp [aBuiltin] at hr; done)
          cases y <;> try (simp [aBuiltin] at hr; done)
          simp only [aBuiltin] at hr ⊢
          split at hr
          · simp only [Option.some.injEq] at hr; exact ⟨_, hr.symm, fun h2 _ => rfl⟩
          · cases hr
        case max =>
          rcases args with _ | ⟨x, _ | ⟨y, _ | ⟨z, l⟩⟩⟩ <;> try (simp [aBuiltin] at hr; done)
          cases x <;> try (simp [aBuiltin] at hr; done)
          cases y <;> try (simp [aBuiltin] at hr; done)
          simp only [aBuiltin] at hr ⊢
          split at hr
          · simp only [Option.some.injEq] at hr; exact ⟨_, hr.symm, fun h2 _ => rfl⟩
          · cases hr
    · cases hr

end
end Go.AE
