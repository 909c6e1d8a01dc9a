import Derived.Test.YtodgdijafcenbaaAE27
namespace Go.AE

/-! ### a run in pieces -/
section
variable {E : Env} {call : CallF} {L : Nat} {rs : List ResultVar}

/-- a body's end says true -/
def endTrue (E : Env) (rs : List ResultVar) (r : Option (AX × PT AV × AH)) : Bool := match r with
  | some (x, T, h) => match (match x with | .exit _ => none | _ => aResults E T h rs) with
    | some l => isTrue (some (aRes l, h))
    | none => false
  | none => false

theorem isTrue_call {n : Nat} {f : FuncId} {fi : FI} {args : List AV} {h : AH} (hf : E.fn f = some fi) (ht : endTrue E fi.results (aCode E (aCall E L n) L fi.body (setN .leaf 0 args) h) = true) :
    isTrue (aCall E L (n + 1) f args h) = true := by
  unfold aCall
  rw [hf]
  simp only
  generalize aCode E (aCall E L n) L fi.body (setN .leaf 0 args) h = r at ht ⊢
  unfold endTrue at ht
  cases r with
  | none => cases ht
  | some r =>
    obtain ⟨x, T, h1⟩ := r
    simp only at ht ⊢
    cases x with
    | exit id => cases ht
    | normal =>
      simp only at ht ⊢
      cases hr : aResults E T h1 fi.results with
      | none => rw [hr] at ht; cases ht
      | some l => rw [hr] at ht; exact ht
    | ret =>
      simp only at ht ⊢
      cases hr : aResults E T h1 fi.results with
      | none => rw [hr] at ht; cases ht
      | some l => rw [hr] at ht; exact ht

theorem endTrue_seq {a b : Code} {T T1 : PT AV} {h h1 : AH} (ha : aCode E call L a T h = some (.normal, T1, h1)) (hb : endTrue E rs (aCode E call L b T1 h1) = true) : endTrue E rs (aCode E call L (.seq a b) T h) = true := by
  simp only [aCode, ha, cSeq]
  exact hb

theorem endTrue_assoc {a b c : Code} {T : PT AV} {h : AH} (ht : endTrue E rs (aCode E call L (.seq a (.seq b c)) T h) = true) : endTrue E rs (aCode E call L (.seq (.seq a b) c) T h) = true := by
  simp only [aCode] at ht ⊢
  generalize aCode E call L a T h = r at ht ⊢
  cases r with
  | none => exact ht
  | some r =>
    obtain ⟨x, T1, h1⟩ := r
    cases x <;> exact ht

theorem aOps_append {all : List Oper} : ∀ {a b : List Oper} {T T1 : PT AV} {h h1 : AH}, aOps E call all a T h = some (T1, h1) → aOps E call all (a ++ b) T h = aOps E call all b T1 h1
  | [], b, T, T1, h, h1, ha => by
    simp only [aOps, Option.some.injEq, Prod.mk.injEq] at ha
    obtain ⟨rfl, rfl⟩ := ha
    rfl
  | o :: a, b, T, T1, h, h1, ha => by
    rw [List.cons_append, aOps.eq_2]
    rw [aOps.eq_2] at ha
    split at ha
    · split at ha
      · exact aOps_append ha
      · cases ha
    · exact aOps_append ha
    · cases ha

/-- the rest of a region and what stands behind it -/
def endOps (E : Env) (call : CallF) (L : Nat) (rs : List ResultVar) (all os : List Oper) (b : Code) (T : PT AV) (h : AH) : Bool := match aOps E call all os T h with
  | some (T, h) => endTrue E rs (aCode E call L b T h)
  | none => false

theorem endTrue_region {i : Nat} {ops : Array Oper} {b : Code} {T : PT AV} {h : AH} (ht : endOps E call L rs ops.toList ops.toList b T h = true) : endTrue E rs (aCode E call L (.seq (.region i ops false) b) T h) = true := by
  simp only [aCode]
  unfold endOps at ht
  split at ht
  · rename_i T1 h1 hr
    rw [hr]
    exact ht
  · cases ht

theorem endOps_chunk {all os : List Oper} {b : Code} {T T1 : PT AV} {h h1 : AH} (k : Nat) (ha : aOps E call all (os.take k) T h = some (T1, h1)) (hb : endOps E call L rs all (os.drop k) b T1 h1 = true) : endOps E call L rs all os b T h = true := by
  have := aOps_append (b := os.drop k) ha
  rw [List.take_append_drop] at this
  unfold endOps at hb ⊢
  rw [this]
  exact hb

theorem endOps_done {all : List Oper} {b : Code} {T : PT AV} {h : AH} (ht : endTrue E rs (aCode E call L b T h) = true) : endOps E call L rs all [] b T h = true := ht
end

def cFst : Code → Code
  | .seq a _ => a
  | c => c
def cSnd : Code → Code
  | .seq _ b => b
  | c => c
def cOps : Code → Array Oper
  | .region _ ops _ => ops
  | _ => #[]
def cId : Code → Nat
  | .region i _ _ => i
  | _ => 0
def stT {α : Type} (r : Option (α × PT AV × AH)) : PT AV := match r with
  | some (_, T, _) => T
  | none => .leaf
def stH {α : Type} (r : Option (α × PT AV × AH)) : AH := match r with
  | some (_, _, h) => h
  | none => .init
def opT (r : Option (PT AV × AH)) : PT AV := match r with
  | some (T, _) => T
  | none => .leaf
def opH (r : Option (PT AV × AH)) : AH := match r with
  | some (_, h) => h
  | none => .init

/-! ### a slice that is handed in and not read -/
def AH.one : AH := ⟨.leaf, 1⟩
def RM.one (r : Reg) : RM := fun id => if id = 0 then some r else none

theorem WRel.one (E : Env) {W : World} {r : Reg} (hr : r.blk < W.heap.size) : WRel E (RM.one r) AH.one W where
  fresh := fun id h => by
    simp only [AH.one] at h
    simp only [RM.one]
    rw [if_neg (by omega)]
  wf := fun _ _ => rfl
  lt := fun id r' h => by
    simp only [RM.one] at h
    split at h
    · simp only [Option.some.injEq] at h; subst h; exact hr
    · cases h
  blocks := fun _ _ _ _ h => by simp [AH.one, PT.get] at h
  apart := fun _ _ _ _ _ _ _ _ _ h => by simp [AH.one, PT.get] at h

theorem WRel.zero (E : Env) (W : World) : WRel E RM.init AH.one W :=
  ⟨fun _ _ => rfl, fun _ _ => rfl, fun _ _ h => by simp [RM.init] at h, fun _ _ _ h => by simp [RM.init] at h, fun _ _ _ _ _ _ _ h => by simp [RM.init] at h⟩

theorem no_own_one (R : RM) (k : Nat) : ¬ Own R AH.one k := fun ⟨_, _, _, _, h, _⟩ => by simp [AH.one, PT.get] at h

/-- a slice that is handed in: nil, or a row of a block that is there -/
theorem open_slice {P : Program} {w : World} {r : Reach} {b0 : Nat} {t e : TypeId} {v : Value} (ht : P.underlying t = some (.slice e)) (hval : Value.okWide P w r b0 t v) :
    v = .slice none 0 0 ∨ ∃ b off len cap, v = .slice (some ⟨b, off, none⟩) len cap ∧ len ≤ cap ∧ b < w.heap.size := by
  obtain ⟨a, len, cap, rfl⟩ := Go.WideShapes.okWide_slice ht hval
  simp only [Value.okWide, ht, Cell.okWide] at hval
  unfold Cell.ok at hval
  rw [ht] at hval
  cases a with
  | none =>
    refine .inl ?_
    split at hval <;> simp_all
  | some a =>
    have hval : len ≤ cap ∧ (cap : Int) ≤ IntKind.i64.max ∧ w.has P r b0 a e cap := by split at hval <;> simp_all
    obtain ⟨hle, _, _, hsp, row, cells, hsh, _⟩ := hval
    refine .inr ⟨a.block, a.off, len, cap, ?_, hle, ?_⟩
    · obtain ⟨b, o, s⟩ := a
      simp only at hsp
      rw [hsp]
    · unfold World.shape? at hsh
      cases hh : w.heap[a.block]? with
      | none => rw [hh] at hsh; simp at hsh
      | some o => exact (Array.getElem?_eq_some_iff.1 hh).1

end Go.AE
