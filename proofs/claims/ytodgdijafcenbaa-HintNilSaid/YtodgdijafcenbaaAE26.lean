import Derived.Test.YtodgdijafcenbaaAE25
import Derived.KernelRfl
namespace Go.AE

/-! ### what Env says, shown entry by entry -/
def PT.AllF {α : Type} (p : Nat → α → Prop) : PT α → Nat → Nat → Prop
  | .leaf, _, _ => True
  | .node l v r, s, b => (∀ x, v = some x → p b x) ∧ AllF p l (2 * s) (b + s) ∧ AllF p r (2 * s) (b + 2 * s)

theorem PT.AllF.get {α : Type} {p : Nat → α → Prop} : ∀ {t : PT α} {s b : Nat}, PT.AllF p t s b → ∀ n x, t.get n = some x → p (b + s * n) x
  | .leaf, _, _, _, n, x, h => by simp [PT.get] at h
  | .node l v r, s, b, ha, 0, x, h => by
    simp only [PT.get] at h
    simpa using ha.1 x h
  | .node l v r, s, b, ha, m + 1, x, h => by
    simp only [PT.get] at h
    split at h
    · rename_i hm
      have := PT.AllF.get ha.2.1 _ x h
      have e : b + s + 2 * s * (m / 2) = b + s * (m + 1) := by
        have : m = 2 * (m / 2) := by omega
        conv => rhs; rw [this]
        rw [Nat.mul_add, Nat.mul_one, Nat.mul_comm 2 s, Nat.mul_assoc]; omega
      rwa [e] at this
    · rename_i k hm
      have := PT.AllF.get ha.2.2 _ x h
      have e : b + 2 * s + 2 * s * (m / 2) = b + s * (m + 1) := by
        have : m = 2 * (m / 2) + 1 := by omega
        conv => rhs; rw [this]
        rw [Nat.mul_add, Nat.mul_one, Nat.mul_add, Nat.mul_one, Nat.mul_comm 2 s, Nat.mul_assoc]; omega
      rwa [e] at this

theorem PT.AllF.here {α : Type} {p : Nat → α → Prop} {l r : PT α} {y : α} {s b : Nat} (h : p b y) (hl : PT.AllF p l (2 * s) (b + s)) (hr : PT.AllF p r (2 * s) (b + 2 * s)) : PT.AllF p (.node l (some y) r) s b :=
  ⟨(fun x e => by cases e; exact h), hl, hr⟩
theorem PT.AllF.skip {α : Type} {p : Nat → α → Prop} {l r : PT α} {s b : Nat} (hl : PT.AllF p l (2 * s) (b + s)) (hr : PT.AllF p r (2 * s) (b + 2 * s)) : PT.AllF p (.node l none r) s b :=
  ⟨(fun x e => by cases e), hl, hr⟩

noncomputable def mkTI (i u : TypeInfo) (eqg stood : Bool) : TI :=
  ⟨u.desc, i.size, i.bytes, match i.zero with | some z => ofVs z.cells.toList | none => none, match i.zero with | some (.agg _) => true | _ => false, eqg, stood⟩
noncomputable def mkFI (f : Func) : FI := ⟨match f.body with | some c => c | none => .skip, f.ntmps, f.results.toList⟩
abbrev lf {α : Type} (x : α) : PT α := .node .leaf (some x) .leaf

def tiGood (P : Program) (f u : TypeInfo) : Bool :=
  (match f.zero with
    | none => true
    | some zv => match ofVs zv.cells.toList with
      | none => true
      | some z => allLe AV.one z && Nat.beq z.length f.size) &&
  (match u.desc with
    | .struct fs => (fs.toList.mapM (fun f => (P.info? f.type).map fun i => (f.offset, i.size))).isSome
    | _ => true)

theorem mkTI_ok {P : Program} {t : TypeId} {f u : TypeInfo} {eqg stood : Bool} (h1 : P.info? t = some f) (h2 : P.underlying t = some u.desc) (hg : tiGood P f u = true)
    (he : eqg = false → P.eqGuardType P.depth t = false) (hs : stood = false → P.stoodInHeld t = false) : TIOk P t (mkTI f u eqg stood) := by
  unfold tiGood at hg
  simp only [Bool.and_eq_true] at hg
  obtain ⟨hz, hfs⟩ := hg
  refine ⟨h2, ⟨f, h1, rfl, rfl, fun z hz' => ?_⟩, he, hs, fun fs hd => ?_⟩
  · simp only [mkTI] at hz'
    cases hf : f.zero with
    | none => rw [hf] at hz'; cases hz'
    | some zv =>
      rw [hf] at hz' hz
      simp only at hz' hz
      rw [hz'] at hz
      simp only [Bool.and_eq_true] at hz
      refine ⟨zv, rfl, hz', hz.1, by simpa [mkTI] using hz.2, ?_⟩
      simp only [mkTI, hf]
      cases zv <;> simp [Value.cells]
  · simp only [mkTI] at hd
    rw [hd] at hfs
    simp only at hfs
    exact Option.isSome_iff_exists.1 hfs

theorem mkFI_ok {P : Program} {f : Nat} {fn : Func} (h1 : P.funcs[f]? = some fn) (hb : fn.body.isSome = true) (hc : codeOk fn.ntmps (mkFI fn).body = true) :
    ∃ fn', P.funcs[f]? = some fn' ∧ fn'.body = some (mkFI fn).body ∧ fn'.ntmps = (mkFI fn).ntmps ∧ fn'.results = ⟨(mkFI fn).results⟩ ∧ codeOk (mkFI fn).ntmps (mkFI fn).body = true := by
  refine ⟨fn, h1, ?_, rfl, rfl, hc⟩
  cases h : fn.body with
  | none => rw [h] at hb; cases hb
  | some c => simp [mkFI, h]

/-- an entry of the four tables -/
def FnOk (P : Program) (f : Nat) (fi : FI) : Prop := ∃ fn, P.funcs[f]? = some fn ∧ fn.body = some fi.body ∧ fn.ntmps = fi.ntmps ∧ fn.results = ⟨fi.results⟩ ∧ codeOk fi.ntmps fi.body = true
def LinkOk (P : Program) (f g : Nat) : Prop := ∀ args W, (callFunc f args).run P W = .ok (.enter g args) W
def ExtOk (P : Program) (f : Nat) (_ : AExt) : Prop := ∀ args W, (callFunc f args).run P W = ((Extern.BytealgCompare.compare args).run P W).andThen fun v w => .ok (.value v) w

theorem envOk_of {P : Program} {et : PT AExt} {tt : PT TI} {ft : PT FI} {lt : PT Nat} (ht : PT.AllF (TIOk P) tt 1 0) (hf : PT.AllF (FnOk P) ft 1 0) (hl : PT.AllF (LinkOk P) lt 1 0) (he : PT.AllF (ExtOk P) et 1 0)
    (hm : P.follows .mixedOrders = true) : EnvOk P ⟨et.get, tt.get, ft.get, lt.get⟩ where
  ti := fun t i h => by simpa using ht.get t i h
  fn := fun t i h => by
    have := hf.get t i h
    simp only [Nat.zero_add, Nat.one_mul] at this
    exact this
  link := fun t i h => by
    have := hl.get t i h
    simp only [Nat.zero_add, Nat.one_mul] at this
    exact this
  ext := fun t h => by
    have := he.get t _ h
    simp only [Nat.zero_add, Nat.one_mul] at this
    exact this
  mixed := hm

end Go.AE
