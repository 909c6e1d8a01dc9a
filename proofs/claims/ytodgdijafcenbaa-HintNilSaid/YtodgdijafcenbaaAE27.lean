import Derived.Test.YtodgdijafcenbaaAE25
import Derived.ChangeArms
import Derived.ChangeSame
import Derived.ChangeSlices
import Derived.WideShapes
import Derived.RowKit
import Derived.RowKit3
import Derived.Carry
namespace Go.AE
open Go.ChangeShapes Go.WideShapes Go.RowKit

/-! ### a flat argument's cells -/
inductive Kd where
  | bool
  | int (k : IntKind)
  | str

def Fits : List Kd → List AV → Prop
  | [], l => l = []
  | .bool :: ks, l => ∃ b l', l = .bool b :: l' ∧ Fits ks l'
  | .int k :: ks, l => ∃ n l', l = .int k n :: l' ∧ (Lit.int k n).wf = true ∧ Fits ks l'
  | .str :: ks, l => ∃ s l', l = .str s :: l' ∧ s.length ≤ maxLen ∧ Fits ks l'

theorem Fits.append : ∀ {ks ks' : List Kd} {l l' : List AV}, Fits ks l → Fits ks' l' → Fits (ks ++ ks') (l ++ l')
  | [], _, l, l', h, h' => by simp only [Fits] at h; subst h; simpa using h'
  | .bool :: ks, _, l, l', h, h' => by
    obtain ⟨b, m, rfl, hm⟩ := h
    exact ⟨b, m ++ l', rfl, hm.append h'⟩
  | .int k :: ks, _, l, l', h, h' => by
    obtain ⟨b, m, rfl, hw, hm⟩ := h
    exact ⟨b, m ++ l', rfl, hw, hm.append h'⟩
  | .str :: ks, _, l, l', h, h' => by
    obtain ⟨b, m, rfl, hw, hm⟩ := h
    exact ⟨b, m ++ l', rfl, hw, hm.append h'⟩

def laidFs (P : Program) (n : Nat) : Nat → List Field → Bool
  | o, [] => Nat.beq o n
  | o, f :: fs => Nat.beq f.offset o && laidFs P n (o + P.cellsOf f.type) fs

def shpFs (g : TypeId → Option (List Kd)) : List Field → Option (List Kd)
  | [] => some []
  | f :: fs => match g f.type with
    | some a => match shpFs g fs with
      | some b => some (a ++ b)
      | none => none
    | none => none

/-- the kinds of the cells of a value of a flat type -/
def shp (P : Program) : Nat → TypeId → Option (List Kd)
  | 0, _ => none
  | n + 1, t => match P.underlying t with
    | some .bool => some [.bool]
    | some (.int k) => some [.int k]
    | some .string => some [.str]
    | some (.struct fs) => match laidFs P (P.cellsOf t) 0 fs.toList with
      | true => shpFs (shp P n) fs.toList
      | false => none
    | _ => none

section
variable {H : Type} {enc : TypeId × Value → H} {P : Program} {w : World} {base : Nat} {spare : Nat → Bool} {held : Bool} {R : RM}

theorem shpFs_ok {g : TypeId → Option (List Kd)} {cs : List Value}  : ∀ {fs : List Field} {o : Nat} {ks : List Kd}, shpFs g fs = some ks → laidFs P cs.length o fs = true →
    (∀ f ∈ fs, ∀ ks, g f.type = some ks → ∃ l, VRs R l ((cs.drop f.offset).take (P.cellsOf f.type)) ∧ Fits ks l) → ∃ l, VRs R l (cs.drop o) ∧ Fits ks l
  | [], o, ks, h, hl, _ => by
    simp only [shpFs, Option.some.injEq] at h
    subst h
    have : o = cs.length := by simpa [laidFs] using hl
    subst this
    exact ⟨[], by simpa using VRs.nil, rfl⟩
  | f :: fs, o, ks, h, hl, hf => by
    simp only [shpFs] at h
    split at h
    · rename_i a ha
      split at h
      · rename_i b hb
        simp only [Option.some.injEq] at h
        subst h
        simp only [laidFs, Bool.and_eq_true] at hl
        have ho : f.offset = o := by simpa using hl.1
        obtain ⟨l1, h1, f1⟩ := hf f (by simp) a ha
        obtain ⟨l2, h2, f2⟩ := shpFs_ok hb hl.2 fun f hf' ks hk => hf f (by simp [hf']) ks hk
        refine ⟨l1 ++ l2, ?_, f1.append f2⟩
        rw [ho] at h1
        have := VRs.append h1 h2
        rw [← List.drop_drop, List.take_append_drop] at this
        exact this
      · cases h
    · cases h

theorem shp_ok : ∀ (m : Nat) {t : TypeId} {fuel : Nat} {cs : List Value} {x : DataW H × List MemPlace} {ks : List Kd}, DataW.trod enc P w base spare held fuel t cs = some x → shp P m t = some ks → ∃ l, VRs R l cs ∧ Fits ks l
  | 0, t, fuel, cs, x, ks, h, hs => by simp [shp] at hs
  | m + 1, t, fuel, cs, x, ks, h, hs => by
    simp only [shp] at hs
    split at hs
    · rename_i ht
      simp only [Option.some.injEq] at hs; subst hs
      obtain ⟨b, rfl, _⟩ := DataW.trod_bool ht h
      exact ⟨[.bool b], .cons _ _ _ _ (.bool b) .nil, b, [], rfl, rfl⟩
    · rename_i k ht
      simp only [Option.some.injEq] at hs; subst hs
      obtain ⟨b, rfl, _, hw⟩ := DataW.trod_int ht h
      exact ⟨[.int k b], .cons _ _ _ _ (.int k b) .nil, b, [], rfl, hw, rfl⟩
    · rename_i ht
      simp only [Option.some.injEq] at hs; subst hs
      obtain ⟨b, rfl, _, hw⟩ := DataW.trod_string ht h
      exact ⟨[.str b.data.toList], .cons _ _ _ _ (.str _ b rfl) .nil, b.data.toList, [], rfl, by simpa using hw, rfl⟩
    · rename_i fs ht
      split at hs
      · rename_i hl
        obtain ⟨xs, n, rfl, rfl, hlen, hn, hall⟩ := DataW.trod_struct ht h
        rw [← hlen] at hl
        obtain ⟨l, h1, h2⟩ := shpFs_ok (R := R) hs hl fun f hf ks hk => by
          obtain ⟨i, hi⟩ := List.mem_iff_getElem?.1 hf
          have := hall i f (by simpa using hi)
          have hi2 : i < xs.length := by
            have := (List.getElem?_eq_some_iff.1 hi).1
            simp at this; omega
          rw [List.getElem?_eq_getElem hi2] at this
          exact shp_ok m this hk
        exact ⟨l, by simpa using h1, h2⟩
      · cases hs
    · cases hs

/-- a struct that is handed in -/
theorem open_flat {r : Reach} {b0 : Nat} {t : TypeId} {fs : Array Field} {v : Value} {d : DataW H} {p : List MemPlace} {ks : List Kd} (m : Nat) (ht : P.underlying t = some (.struct fs)) (hval : Value.okWide P w r b0 t v)
    (h : DataW.Trod enc P w base spare held t v d p) (hs : shp P m t = some ks) : ∃ l, VR R (.agg l) v ∧ Fits ks l := by
  obtain ⟨cs, rfl, _⟩ := okWide_struct ht hval
  obtain ⟨fuel, hf⟩ := h
  obtain ⟨l, h1, h2⟩ := shp_ok (R := R) m hf hs
  refine ⟨l, ?_, h2⟩
  have : cs = ⟨cs.toList⟩ := by simp
  rw [this]
  exact .agg _ _ h1

/-! ### behind the call -/
theorem trodAll_behind {W W' : World} (hl : laidOutB P = true) (hb : Below W.heap.size W W') {sp : Nat → Bool} : ∀ {ts : List TypeId} {vs : List Value} {ds : List (DataW H)} {ps : List MemPlace},
    DataW.TrodAll enc P W 0 (fun _ => true) true ts vs ds ps → (∀ t ∈ ts, P.readableRec t = true ∧ t < P.types.size) → (∀ x ∈ ps, x.block < W.heap.size) → (∀ x ∈ ps, sp x.block = true) → DataW.TrodAll enc P W' 0 sp true ts vs ds ps
  | [], _, _, _, h, _, _, _ => by
    obtain ⟨rfl, rfl, rfl⟩ := trodAll_nil h
    exact trodAll_mk0
  | t :: ts, _, _, _, h, hr, hlt, hsp => by
    obtain ⟨v, vs, d, ds, p, q, rfl, rfl, rfl, h0, h1⟩ := trodAll_cons h
    have ht := hr t (by simp)
    refine ⟨p, q, WideElems.Trod_stays hl ht.1 ht.2 h0 (fun x hx => hb.same (hlt x (by simp [hx]))) (fun x hx => hsp x (by simp [hx])), ?_, rfl⟩
    exact trodAll_behind hl hb h1 (fun t ht => hr t (by simp [ht])) (fun x hx => hlt x (by simp [hx])) (fun x hx => hsp x (by simp [hx]))

/-- the call said true and turned nothing that was there -/
theorem post_true {f : Func} {s : ChangeSpec} {apart fresh handsOn again : Bool} {W W' : World} {args : Array Value} {ds gs : List (DataW H)} {before : List MemPlace} {tb : TypeId}
    (hW : DataW.Whole enc P f.params.toList s.vars apart W args.toList ds gs before) (hvars : s.vars = []) (hres : f.resultTypes = #[tb]) (htb : P.underlying tb = some .bool)
    (hl : laidOutB P = true) (hr : ∀ t ∈ f.params.toList, P.readableRec t = true ∧ t < P.types.size) (hfn : s.fn H (ds ++ gs) = { results := [.lit (.bool true)], args := ds }) (hb : Below W.heap.size W W') :
    s.post enc P f apart fresh handsOn again W args (.bool true) W' := by
  have hlt := hW.lt
  have hW' := hW
  obtain ⟨p, q, hA, hV, rfl, hz, hn⟩ := hW
  rw [hvars] at hV
  obtain ⟨rfl, rfl⟩ := trodVars_none hV
  simp only [List.append_nil] at hlt hz hn hW'
  have hargs : ∀ sp : Nat → Bool, (∀ x ∈ p, sp x.block = true) → DataW.TrodAll enc P W' 0 sp true f.params.toList args.toList ds p := fun sp hsp => trodAll_behind hl hb hA hr hlt hsp
  have hresT : ∀ (b : Nat) (sp : Nat → Bool) (hd : Bool), DataW.TrodAll enc P W' b sp hd f.resultTypes.toList ((Value.bool true).resultList f.resultTypes.size) [.lit (.bool true)] [] := fun b sp hd => by
    rw [hres]
    exact trodAll_mk1 (shut_bool htb true)
  refine ⟨ds, [], p, [], p, [], hW', ?_, ?_, ?_, hb.frame _, fun _ => ⟨ok_one hres rfl (okWide_bool_mk htb true), .lit (.bool true) :: ds, [], p, ⟨p, [], ?_, ?_, by simp, ?_, hn⟩, fun x hx _ => hx⟩⟩
  · simp only [hfn]; exact hresT _ _ _
  · simp only [hfn]; exact hargs _ fun x hx => by simpa using hlt x hx
  · simp only [hfn, hvars]; rfl
  · rw [hres]
    exact by exact ⟨[], p, shut_bool htb true, hargs _ fun _ _ => rfl, rfl⟩
  · rw [hvars]; rfl
  · intro b off hx
    rw [hb.frozen (p := ⟨b, off, none⟩) (hlt _ hx)]
    exact hz b off hx
end

/-! ### the start -/
def AH.init : AH := ⟨.leaf, 0⟩
def RM.init : RM := fun _ => none

theorem WRel.init (E : Env) (W : World) : WRel E RM.init AH.init W :=
  ⟨fun _ _ => rfl, fun _ _ => rfl, fun _ _ h => by simp [RM.init] at h, fun _ _ _ h => by simp [RM.init] at h, fun _ _ _ _ _ _ _ h => by simp [RM.init] at h⟩

theorem Ext.below {n0 : Nat} {R R' : RM} {h h' : AH} {W W' : World} (he : Ext n0 R h W R' h' W') (hno : ∀ k, ¬ Own R h k) : Below W.heap.size W W' :=
  ⟨he.os, he.tape, he.output, he.size, fun k hk => he.frame k hk (hno k)⟩

def isTrue : Option (AV × AH) → Bool
  | some (.bool true, _) => true
  | _ => false

/-- a run of the evaluator that says true is a call that says true -/
theorem calls_true {P : Program} {E : Env} (hE : EnvOk P E) {L n : Nat} {f : FuncId} {args : List AV} {h : AH} (hc : isTrue (aCall E L n f args h) = true) {R : RM} {W : World} {args' : List Value} (hw : WRel E R h W)
    (hargs : VRs R args args') (hno : ∀ k, ¬ Own R h k) : Calls P f ⟨args'⟩ W fun e W' => e = .returned (.bool true) ∧ Below W.heap.size W W' := by
  unfold isTrue at hc
  split at hc
  · rename_i h' hcall
    refine (aCall_ok hE n f args h _ _ hcall R W args' hw hargs).mono fun e W' ⟨R', v', he, hv, _, hx⟩ => ?_
    generalize hb : AV.bool true = b at hv
    cases hv <;> simp only [reduceCtorEq, AV.bool.injEq] at hb
    subst hb
    exact ⟨he, (hx 0 (Nat.zero_le _)).below hno⟩
  · cases hc

theorem calls_true_init {P : Program} {E : Env} (hE : EnvOk P E) {L n : Nat} {f : FuncId} {args : List AV} (hc : isTrue (aCall E L n f args AH.init) = true) {W : World} {args' : List Value}
    (hargs : VRs RM.init args args') : Calls P f ⟨args'⟩ W fun e W' => e = .returned (.bool true) ∧ Below W.heap.size W W' :=
  calls_true hE hc (WRel.init E W) hargs fun k ⟨_, _, _, h, _⟩ => by simp [RM.init] at h

end Go.AE
