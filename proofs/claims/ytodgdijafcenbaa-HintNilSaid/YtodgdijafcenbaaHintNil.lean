/- HintNil returns true for whatever record, node and list of nodes, and leaves all that was there as it was; no condition. -/
import Derived.Test.YtodgdijafcenbaaRows
import Derived.Test.YtodgdijafcenbaaEnv
import Derived.Test.YtodgdijafcenbaaAE28
import Derived.WalkKit
import Derived.ProofKit
import Derived.OpenShut
import Derived.JoinedCond
namespace Go.Proofs.Ytodgdijafcenbaa.hintNil
open Go.ChangeShapes Go.WideShapes Go.ChangeAt Go.RowKit Go.AE
set_option linter.unusedVariables false

theorem own : ownKnob Try.prog.godebug = none := by kernel_rfl
theorem laidOut : laidOutB Try.prog = true := by kernel_rfl
theorem readable : ∀ t ∈ Try.f3.params.toList, Try.prog.readableRec t = true ∧ t < Try.prog.types.size := by
  rw [Try.params3]
  intro t ht
  simp only [List.mem_cons, List.not_mem_nil, or_false] at ht
  rcases ht with rfl | rfl | rfl
  · exact ⟨by kernel_rfl, of_decide_eq_true (by kernel_rfl)⟩
  · exact ⟨by kernel_rfl, of_decide_eq_true (by kernel_rfl)⟩
  · exact ⟨by kernel_rfl, of_decide_eq_true (by kernel_rfl)⟩

structure In where
  key : List UInt8
  body : List UInt8
  p : Int
  l : Int
  n : Int
  k : Int
  f : Int
  e : Int
  node : Int

def args (a : In) (up : AV) : List AV := [.agg [.str a.key, .int .u64 a.p, .int .u32 a.l, .int .u8 a.n, .int .u8 a.k, .int .u32 a.f, .int .u64 a.e, .str a.body], .int .u8 a.node, up]

noncomputable def call : CallF := aCall env 2000 59
noncomputable def c1 : Code := (cSnd fi3.body)
noncomputable def c2 : Code := (cSnd c1)
noncomputable def r2 : Code := (cFst (cFst c2))
noncomputable def cIf : Code := (cSnd (cFst c2))
noncomputable def ops : List Oper := (cOps r2).toList
theorem body_eq : fi3.body = .seq (cFst fi3.body) (.seq (cFst c1) (.seq (.seq (.region (cId r2) (cOps r2) false) cIf) (cSnd c2))) := by kernel_rfl

noncomputable def sA (a : In) (up : AV) := aCode env call 2000 (cFst fi3.body) (setN .leaf 0 (args a up)) .one
noncomputable def sB (a : In) (up : AV) := aCode env call 2000 (cFst c1) (stT (sA a up)) (stH (sA a up))
noncomputable def T2 (a : In) (up : AV) (b : Bool) : PT AV := ((opT (aOps env call ops (ops.take 2) (stT (sB a up)) (stH (sB a up)))).set 15 (.bool b)).set 16 (.bool b)
noncomputable def T4 (a : In) (up : AV) (b : Bool) : PT AV := ((opT (aOps env call ops ((ops.drop 4).take 3) (T2 a up false) (stH (sB a up)))).set 20 (.bool b)).set 21 (.bool b)

set_option maxRecDepth 1000000
section
variable (a : In) (len cap : Nat)
theorem hA (up : AV) : aCode env call 2000 (cFst fi3.body) (setN .leaf 0 (args a up)) .one = some (.normal, stT (sA a up), stH (sA a up)) := by kernel_rfl
theorem hB (up : AV) : aCode env call 2000 (cFst c1) (stT (sA a up)) (stH (sA a up)) = some (.normal, stT (sB a up), stH (sB a up)) := by kernel_rfl

theorem hC : aOps env call ops (ops.take 4) (stT (sB a (.slc 0 0 len cap))) (stH (sB a (.slc 0 0 len cap))) = some (T2 a (.slc 0 0 len cap) (iLt (.ofNat 100) (.ofNat len)), stH (sB a (.slc 0 0 len cap))) := by kernel_rfl
theorem hC0 : aOps env call ops (ops.take 4) (stT (sB a .nils)) (stH (sB a .nils)) = some (T2 a .nils false, stH (sB a .nils)) := by kernel_rfl
theorem many : endOps env call 2000 fi3.results ops (ops.drop 4) (.seq cIf (cSnd c2)) (T2 a (.slc 0 0 len cap) true) (stH (sB a (.slc 0 0 len cap))) = true := by kernel_rfl
theorem hD : aOps env call ops ((ops.drop 4).take 5) (T2 a (.slc 0 0 len cap) false) (stH (sB a (.slc 0 0 len cap))) = some (T4 a (.slc 0 0 len cap) (iLt (.ofNat 1000) (.ofNat a.key.length)), stH (sB a (.slc 0 0 len cap))) := by kernel_rfl
theorem hD0 : aOps env call ops ((ops.drop 4).take 5) (T2 a .nils false) (stH (sB a .nils)) = some (T4 a .nils (iLt (.ofNat 1000) (.ofNat a.key.length)), stH (sB a .nils)) := by kernel_rfl
theorem long : endOps env call 2000 fi3.results ops ((ops.drop 4).drop 5) (.seq cIf (cSnd c2)) (T4 a (.slc 0 0 len cap) true) (stH (sB a (.slc 0 0 len cap))) = true := by kernel_rfl
theorem short : endOps env call 2000 fi3.results ops ((ops.drop 4).drop 5) (.seq cIf (cSnd c2)) (T4 a (.slc 0 0 len cap) false) (stH (sB a (.slc 0 0 len cap))) = true := by kernel_rfl
theorem long0 : endOps env call 2000 fi3.results ops ((ops.drop 4).drop 5) (.seq cIf (cSnd c2)) (T4 a .nils true) (stH (sB a .nils)) = true := by kernel_rfl
theorem short0 : endOps env call 2000 fi3.results ops ((ops.drop 4).drop 5) (.seq cIf (cSnd c2)) (T4 a .nils false) (stH (sB a .nils)) = true := by kernel_rfl
end

theorem start (a : In) (up : AV) (h : endOps env call 2000 fi3.results ops ops (.seq cIf (cSnd c2)) (stT (sB a up)) (stH (sB a up)) = true) : isTrue (aCall env 2000 60 3 (args a up) .one) = true := by
  refine isTrue_call (fi := fi3) (by kernel_rfl) ?_
  rw [body_eq]
  exact endTrue_seq (hA a up) (endTrue_seq (hB a up) (endTrue_assoc (endTrue_region h)))

theorem run (a : In) (len cap : Nat) : isTrue (aCall env 2000 60 3 (args a (.slc 0 0 len cap)) .one) = true := by
  refine start a _ (endOps_chunk 4 (hC a len cap) ?_)
  generalize iLt (.ofNat 100) (.ofNat len) = b
  cases b with
  | true => exact many a len cap
  | false =>
    refine endOps_chunk 5 (hD a len cap) ?_
    generalize iLt (.ofNat 1000) (.ofNat a.key.length) = b
    cases b with
    | true => exact long a len cap
    | false => exact short a len cap

theorem run0 (a : In) : isTrue (aCall env 2000 60 3 (args a .nils) .one) = true := by
  refine start a _ (endOps_chunk 4 (hC0 a) ?_)
  refine endOps_chunk 5 (hD0 a) ?_
  generalize iLt (.ofNat 1000) (.ofNat a.key.length) = b
  cases b with
  | true => exact long0 a
  | false => exact short0 a

theorem shapeRec : shp Try.prog 4 27 = some [.str, .int .u64, .int .u32, .int .u8, .int .u8, .int .u32, .int .u64, .str] := by kernel_rfl

set_option maxRecDepth 100000 in
/-- what the walk gives, for every argument -/
theorem contract (H : Type) (enc : TypeId × Value → H) (W : World) (base : Nat) (vs : Array Value) (ds gs : List (DataW H)) (before : List MemPlace) (again : Bool)
    (hval : ∀ (j : Nat) t v, Try.f3.params[j]? = some t → vs[j]? = some v → Value.okWide Try.prog W .any base t v)
    (hW : DataW.Whole enc Try.prog Try.f3.params.toList Rows.hintNilSpec.vars false W vs.toList ds gs before) :
    Calls Try.prog 3 vs W fun e W' => ∃ v, e = .returned v ∧ Rows.hintNilSpec.post enc Try.prog Try.f3 false true false again W vs v W' := by
  have hW' := hW
  obtain ⟨p, q, hA0, hV, rfl, hfz, hnd⟩ := hW
  have hA : DataW.TrodAll enc Try.prog W 0 (fun _ => true) true Try.f3.params.toList vs.toList ds p := hA0
  rw [Try.params3] at hA hval
  obtain ⟨v0, v1, v2, d0, d1, d2, p0, p1, p2, rfl, rfl, rfl, h0, h1, h2⟩ := trodAll_three hA
  obtain ⟨rfl, rfl⟩ := trodVars_none hV
  obtain ⟨node, rfl, rfl, rfl, w1⟩ := open_int Try.underlying5 (hval 1 5 v1 rfl rfl) h1
  have key : Calls Try.prog 3 #[v0, .int .u8 node, v2] W fun e W' => e = .returned (.bool true) ∧ Below W.heap.size W W' := by
    rcases open_slice Try.underlying28 (hval 2 28 v2 rfl rfl) with rfl | ⟨b, off, len, cap, rfl, hle, hb⟩
    · obtain ⟨l, hl, hfit⟩ := open_flat (R := RM.init) 4 Try.underlying27 (hval 0 27 v0 rfl rfl) h0 shapeRec
      obtain ⟨key, _, rfl, hkey, p', _, rfl, wp, lg, _, rfl, wl, n, _, rfl, wn, k, _, rfl, wk, f, _, rfl, wf, e, _, rfl, we, body, _, rfl, hbody, rfl⟩ := hfit
      exact calls_true (P := Try.prog) envOk (run0 ⟨key, body, p', lg, n, k, f, e, node⟩) (WRel.zero env W) (.cons _ _ _ _ hl (.cons _ _ _ _ (.int _ _) (.cons _ _ _ _ .nils .nil))) (no_own_one _)
    · obtain ⟨l, hl, hfit⟩ := open_flat (R := RM.one ⟨b, off, 1, 0, 0⟩) 4 Try.underlying27 (hval 0 27 v0 rfl rfl) h0 shapeRec
      obtain ⟨key, _, rfl, hkey, p', _, rfl, wp, lg, _, rfl, wl, n, _, rfl, wn, k, _, rfl, wk, f, _, rfl, wf, e, _, rfl, we, body, _, rfl, hbody, rfl⟩ := hfit
      exact calls_true (P := Try.prog) envOk (run ⟨key, body, p', lg, n, k, f, e, node⟩ len cap) (WRel.one env hb)
        (.cons _ _ _ _ hl (.cons _ _ _ _ (.int _ _) (.cons _ _ _ _ (.slc 0 0 len cap cap ⟨b, off, 1, 0, 0⟩ rfl hle (Nat.le_refl _) (.inl rfl)) .nil))) (no_own_one _)
  refine key.mono fun e W' ⟨he, hb⟩ => ⟨_, he, ?_⟩
  exact post_true hW' rfl (by kernel_rfl) Try.underlying4 laidOut readable rfl hb

set_option maxRecDepth 100000 in
theorem lifted (os : Os) (started : os.Started) (H : Type) (enc : TypeId × Value → H) :
    ReturnsInHanded {} Try.checked os 3 .any (Rows.hintNilSpec.pre6 enc Try.prog Try.f3 Rows.hintNilRow.domain false) (Rows.hintNilSpec.post enc Try.prog Try.f3 false true false false) := by
  refine returnsInHanded_of_change (C := Try.checked) own started (by kernel_rfl) Try.func3
    (ChangeSpec.witness6 (enc := enc) (C := Try.checked) false ⟨#[], #[.agg #[.string ⟨#[]⟩, .int .u64 0, .int .u32 0, .int .u8 0, .int .u8 0, .int .u32 0, .int .u64 0, .string ⟨#[]⟩], .int .u8 0, .slice none 0 0], []⟩ 8 (by kernel_rfl) (by kernel_rfl) (by kernel_rfl) (by kernel_rfl)) ?_
  intro W base args ds gs before hval hW _ _
  exact contract H enc W base args ds gs before false hval hW

theorem proved : Rows.HintNilSaid :=
  OpenClaim.holds_of_wide 3 Try.f3 rfl rfl rfl rfl rfl rfl rfl ⟨rfl, rfl, rfl, rfl, rfl⟩ rfl rfl rfl rfl rfl (by kernel_rfl) Try.func3 (by kernel_rfl)
    (of_decide_eq_true (by kernel_rfl)) (by unfold Func.isWrapper; first | (rw [if_pos (by decide +kernel)]; kernel_rfl) | (rw [if_neg (by decide +kernel)]; exact ⟨rfl, rfl⟩))
    (fun os started H enc _ => lifted os started H enc)
end Go.Proofs.Ytodgdijafcenbaa.hintNil
