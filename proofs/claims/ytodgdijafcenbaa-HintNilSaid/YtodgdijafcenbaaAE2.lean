import Derived.Test.YtodgdijafcenbaaAE1
import Derived.Laws.World
import Derived.Laws.Cells
namespace Go.AE

/-! ### lists and maps -/
theorem nth_eq {α : Type} (l : List α) : ∀ n, nth l n = l[n]? := by
  induction l with
  | nil => intro n; rfl
  | cons a l ih => intro n; cases n with
    | zero => rfl
    | succ n => simp [nth, ih]

theorem get_setN {α : Type} (l : List α) : ∀ (t : PT α) (o k : Nat), (setN t o l).get k = if o ≤ k ∧ k < o + l.length then l[k - o]? else t.get k := by
  induction l with
  | nil => intro t o k; simp only [setN, List.length_nil]; rw [if_neg (by omega)]
  | cons a l ih =>
    intro t o k
    simp only [setN, List.length_cons]
    rw [ih, PT.get_set]
    by_cases h1 : Nat.succ o ≤ k ∧ k < Nat.succ o + l.length
    · rw [if_pos h1, if_pos (by omega)]
      have : k - o = (k - Nat.succ o) + 1 := by omega
      rw [this, List.getElem?_cons_succ]
    · rw [if_neg h1]
      by_cases h2 : k = o
      · subst h2; rw [if_pos rfl, if_pos (by omega)]; simp
      · rw [if_neg h2, if_neg (by omega)]

theorem getN_spec {α : Type} (t : PT α) : ∀ (n o : Nat) (l : List α), getN t o n = some l → l.length = n ∧ ∀ i, i < n → t.get (o + i) = l[i]? := by
  intro n
  induction n with
  | zero => intro o l h; simp [getN] at h; subst h; exact ⟨rfl, fun i h => absurd h (by omega)⟩
  | succ n ih =>
    intro o l h
    simp only [getN] at h
    cases h0 : t.get o with
    | none => rw [h0] at h; simp at h
    | some a =>
      rw [h0] at h
      simp only at h
      cases h1 : getN t (Nat.succ o) n with
      | none => rw [h1] at h; simp at h
      | some r =>
        rw [h1] at h
        simp only [Option.some.injEq] at h
        subst h
        obtain ⟨hl, hg⟩ := ih _ _ h1
        refine ⟨by simp [hl], fun i hi => ?_⟩
        cases i with
        | zero => simpa using h0
        | succ i =>
          have := hg i (by omega)
          rw [List.getElem?_cons_succ, ← this]
          congr 1; omega

theorem getN_mk {α : Type} (t : PT α) : ∀ (n o : Nat) (l : List α), l.length = n → (∀ i, i < n → t.get (o + i) = l[i]?) → getN t o n = some l := by
  intro n
  induction n with
  | zero => intro o l h _; cases l with
    | nil => rfl
    | cons a l => simp at h
  | succ n ih =>
    intro o l h hg
    cases l with
    | nil => simp at h
    | cons a l =>
      have h0 := hg 0 (by omega)
      simp only [Nat.add_zero, List.getElem?_cons_zero] at h0
      simp only [getN, h0]
      rw [ih (Nat.succ o) l (by simpa using h) fun i hi => by
        have := hg (i + 1) (by omega)
        rw [List.getElem?_cons_succ] at this
        rw [← this]; congr 1; omega]

/-! ### how the abstract heap stands to the world -/
/-- where a block lies: its block, its first cell, its cells, the cells that are its own alone, and the cells of an element -/
structure Reg where
  blk : Nat
  off : Nat
  size : Nat
  room : Nat
  es : Nat

abbrev RM := Nat → Option Reg

def RM.le (R R' : RM) : Prop := ∀ id r, R id = some r → R' id = some r
theorem RM.le_refl (R : RM) : RM.le R R := fun _ _ h => h
theorem RM.le_trans {R R' R'' : RM} (h : RM.le R R') (k : RM.le R' R'') : RM.le R R'' := fun id r e => k id r (h id r e)
def RM.upd (R : RM) (id : Nat) (r : Reg) : RM := fun k => if k = id then some r else R k
theorem RM.le_upd {R : RM} {id : Nat} (r : Reg) (h : R id = none) : RM.le R (R.upd id r) := by
  intro k s e
  unfold RM.upd
  split
  · rename_i hk; subst hk; rw [h] at e; cases e
  · exact e
theorem RM.upd_same (R : RM) (id : Nat) (r : Reg) : R.upd id r id = some r := by simp [RM.upd]
theorem RM.upd_other (R : RM) {id k : Nat} (r : Reg) (h : k ≠ id) : R.upd id r k = R k := by simp [RM.upd, h]

mutual
inductive VR (R : RM) : AV → Value → Prop where
  | bool (b : Bool) : VR R (.bool b) (.bool b)
  | int (k : IntKind) (n : Int) : VR R (.int k n) (.int k n)
  | str (l : List UInt8) (s : ByteArray) (h : s.data.toList = l) : VR R (.str l) (.string s)
  | nilp : VR R .nilp (.pointer none)
  | ptr (b o : Nat) (r : Reg) (h : R b = some r) : VR R (.ptr b o) (.pointer (some ⟨r.blk, r.off + o, none⟩))
  | nils : VR R .nils (.slice none 0 0)
  | slc0 (b o : Nat) (a : Addr) (r : Reg) (h : R b = some r) : VR R (.slc b o 0 0) (.slice (some a) 0 0)
  | slc (b o n c c' : Nat) (r : Reg) (h : R b = some r) (hn : n ≤ c) (hc : c ≤ c') (hr : c' = c ∨ (o + c * r.es = r.size ∧ o + c' * r.es = r.room)) :
      VR R (.slc b o n c) (.slice (some ⟨r.blk, r.off + o, none⟩) n c')
  | nilm : VR R .nilm (.map none)
  | map (b : Nat) (r : Reg) (h : R b = some r) : VR R (.map b) (.map (some r.blk))
  | nilf : VR R .nilf .nilFunc
  | fn (f : FuncId) (x y : List AV) (x' y' : List Value) (hx : VRs R x x') (hy : VRs R y y') : VR R (.fn f x y) (.func (.func f) ⟨x'⟩ ⟨y'⟩)
  | nili : VR R .nili .nilIface
  | iface (t : TypeId) (v : AV) (v' : Value) (h : VR R v v') : VR R (.iface t v) (.iface t v')
  | agg (l : List AV) (l' : List Value) (h : VRs R l l') : VR R (.agg l) (.agg ⟨l'⟩)
  | tup (l : List AV) (l' : List Value) (h : VRs R l l') : VR R (.tup l) (.tuple ⟨l'⟩)
inductive VRs (R : RM) : List AV → List Value → Prop where
  | nil : VRs R [] []
  | cons (v : AV) (v' : Value) (l : List AV) (l' : List Value) (h : VR R v v') (hl : VRs R l l') : VRs R (v :: l) (v' :: l')
end

theorem VR.undef (R : RM) : VR R AV.undef Go.undef := .tup _ _ .nil

mutual
theorem VR.mono {R R' : RM} (hle : RM.le R R') : ∀ {v : AV} {v' : Value}, VR R v v' → VR R' v v'
  | _, _, .bool b => .bool b
  | _, _, .int k n => .int k n
  | _, _, .str l s h => .str l s h
  | _, _, .nilp => .nilp
  | _, _, .ptr b o r h => .ptr b o r (hle _ _ h)
  | _, _, .nils => .nils
  | _, _, .slc0 b o a r h => .slc0 b o a r (hle _ _ h)
  | _, _, .slc b o n c c' r h hn hc hr => .slc b o n c c' r (hle _ _ h) hn hc hr
  | _, _, .nilm => .nilm
  | _, _, .map b r h => .map b r (hle _ _ h)
  | _, _, .nilf => .nilf
  | _, _, .fn f x y x' y' hx hy => .fn f x y x' y' (VRs.mono hle hx) (VRs.mono hle hy)
  | _, _, .nili => .nili
  | _, _, .iface t v v' h => .iface t v v' (VR.mono hle h)
  | _, _, .agg l l' h => .agg l l' (VRs.mono hle h)
  | _, _, .tup l l' h => .tup l l' (VRs.mono hle h)
theorem VRs.mono {R R' : RM} (hle : RM.le R R') : ∀ {l : List AV} {l' : List Value}, VRs R l l' → VRs R' l l'
  | _, _, .nil => .nil
  | _, _, .cons v v' l l' h hl => .cons v v' l l' (VR.mono hle h) (VRs.mono hle hl)
end

theorem VRs.length {R : RM} {l : List AV} {l' : List Value} (h : VRs R l l') : l.length = l'.length := by
  induction l generalizing l' with
  | nil => cases h; rfl
  | cons a l ih => cases h with | cons _ _ _ _ h hl => simp [ih hl]

theorem VRs.get {R : RM} {l : List AV} {l' : List Value} (h : VRs R l l') : ∀ {i : Nat} {v : AV}, l[i]? = some v → ∃ v', l'[i]? = some v' ∧ VR R v v' := by
  induction l generalizing l' with
  | nil => intro i v hi; simp at hi
  | cons a l ih =>
    intro i v hi
    cases h with
    | cons _ v' _ l' h hl =>
      cases i with
      | zero => simp at hi; subst hi; exact ⟨v', by simp, h⟩
      | succ i => simp at hi; simpa using ih hl hi

theorem VRs.append {R : RM} {l m : List AV} {l' m' : List Value} (h : VRs R l l') (k : VRs R m m') : VRs R (l ++ m) (l' ++ m') := by
  induction l generalizing l' with
  | nil => cases h; exact k
  | cons a l ih => cases h with | cons _ _ _ _ h hl => exact .cons _ _ _ _ h (ih hl)

theorem VRs.of_get {R : RM} : ∀ {l : List AV} {l' : List Value}, l.length = l'.length → (∀ (i : Nat) v, l[i]? = some v → ∃ v', l'[i]? = some v' ∧ VR R v v') → VRs R l l'
  | [], [], _, _ => .nil
  | a :: l, b :: l', hl, h => by
    obtain ⟨v', e, hv⟩ := h 0 a (by simp)
    simp at e; subst e
    exact .cons _ _ _ _ hv (VRs.of_get (by simpa using hl) fun i v hi => by simpa using h (i + 1) v (by simpa using hi))
  | [], _ :: _, hl, _ => by simp at hl
  | _ :: _, [], hl, _ => by simp at hl

theorem VR.inv_ptr {R : RM} {b o : Nat} {q : Value} (h : VR R (.ptr b o) q) : ∃ r, R b = some r ∧ q = .pointer (some ⟨r.blk, r.off + o, none⟩) := by
  cases h with | ptr _ _ r h => exact ⟨r, h, rfl⟩
theorem VR.inv_fn {R : RM} {f : FuncId} {x y : List AV} {q : Value} (h : VR R (.fn f x y) q) : ∃ x' y', VRs R x x' ∧ VRs R y y' ∧ q = .func (.func f) ⟨x'⟩ ⟨y'⟩ := by
  cases h with | fn _ _ _ x' y' hx hy => exact ⟨x', y', hx, hy, rfl⟩
theorem VR.inv_int {R : RM} {k : IntKind} {n : Int} {q : Value} (h : VR R (.int k n) q) : q = .int k n := by cases h; rfl
theorem VR.inv_bool {R : RM} {b : Bool} {q : Value} (h : VR R (.bool b) q) : q = .bool b := by cases h; rfl
theorem VR.inv_str {R : RM} {l : List UInt8} {q : Value} (h : VR R (.str l) q) : ∃ s : ByteArray, s.data.toList = l ∧ q = .string s := by
  cases h with | str _ s h => exact ⟨s, h, rfl⟩
theorem VR.inv_agg {R : RM} {l : List AV} {q : Value} (h : VR R (.agg l) q) : ∃ l', VRs R l l' ∧ q = .agg ⟨l'⟩ := by
  cases h with | agg _ l' h => exact ⟨l', h, rfl⟩
theorem VR.inv_tup {R : RM} {l : List AV} {q : Value} (h : VR R (.tup l) q) : ∃ l', VRs R l l' ∧ q = .tuple ⟨l'⟩ := by
  cases h with | tup _ l' h => exact ⟨l', h, rfl⟩
theorem VR.inv_nils {R : RM} {q : Value} (h : VR R .nils q) : q = .slice none 0 0 := by cases h; rfl
theorem VR.inv_slc {R : RM} {b o n c : Nat} {q : Value} (h : VR R (.slc b o n c) q) : ∃ r a c', R b = some r ∧ q = .slice (some a) n c' ∧ (n ≤ c ∧ c ≤ c') ∧
    ((n = 0 ∧ c = 0 ∧ c' = 0) ∨ (a = ⟨r.blk, r.off + o, none⟩ ∧ (c' = c ∨ (o + c * r.es = r.size ∧ o + c' * r.es = r.room)))) := by
  cases h with
  | slc0 _ _ a r h => exact ⟨r, a, 0, h, rfl, ⟨Nat.le_refl _, Nat.le_refl _⟩, .inl ⟨rfl, rfl, rfl⟩⟩
  | slc _ _ _ _ c' r h hn hc hr => exact ⟨r, _, c', h, rfl, ⟨hn, hc⟩, .inr ⟨rfl, hr⟩⟩
theorem VR.inv_map {R : RM} {b : Nat} {q : Value} (h : VR R (.map b) q) : ∃ r, R b = some r ∧ q = .map (some r.blk) := by
  cases h with | map _ r h => exact ⟨r, h, rfl⟩

/-- one cell here is one cell there -/
theorem VR.one {R : RM} {v : AV} {v' : Value} (h : VR R v v') : v'.oneCell' = v.one := by cases h <;> rfl
theorem VR.cells {R : RM} {v : AV} {v' : Value} (h : VR R v v') : VRs R v.cells v'.cells.toList := by
  cases h <;> first
    | exact .cons _ _ _ _ (by assumption) .nil
    | (simp only [AV.cells, Value.cells]; assumption)
    | (simp only [AV.cells, Value.cells]; exact .cons _ _ _ _ (by first | exact VR.bool _ | exact VR.int _ _ | exact VR.str _ _ (by assumption) | exact VR.nilp | exact VR.ptr _ _ _ (by assumption) | exact VR.nils | exact VR.slc0 _ _ _ _ (by assumption) | exact VR.slc _ _ _ _ _ _ (by assumption) (by assumption) (by assumption) (by assumption) | exact VR.nilm | exact VR.map _ _ (by assumption) | exact VR.nilf | exact VR.fn _ _ _ _ _ (by assumption) (by assumption) | exact VR.nili | exact VR.iface _ _ _ (by assumption) | exact VR.tup _ _ (by assumption)) .nil)

theorem allLe_one {R : RM} {l : List AV} {l' : List Value} (h : VRs R l l') (ha : allLe AV.one l = true) : ∀ v ∈ l', Value.oneCell' v = true := by
  induction l generalizing l' with
  | nil => cases h; intro v hv; simp at hv
  | cons a l ih =>
    cases h with
    | cons _ b _ l' h hl =>
      simp only [allLe] at ha
      cases hb : AV.one a with
      | false => rw [hb] at ha; simp at ha
      | true =>
        rw [hb] at ha
        intro v hv
        rcases List.mem_cons.1 hv with e | e
        · subst e; rw [h.one, hb]
        · exact ih hl ha v e

/-- entries -/
inductive MR (R : RM) : List (AV × AV) → List MapEntry → Prop where
  | nil : MR R [] []
  | cons (k v : AV) (e : MapEntry) (l : List (AV × AV)) (l' : List MapEntry) (hk : VR R k e.key) (hv : VR R v e.val) (hl : MR R l l') : MR R ((k, v) :: l) (e :: l')
theorem MR.mono {R R' : RM} (hle : RM.le R R') {l : List (AV × AV)} {l' : List MapEntry} (h : MR R l l') : MR R' l l' := by
  induction h with
  | nil => exact .nil
  | cons k v e l l' hk hv _ ih => exact .cons k v e l l' (hk.mono hle) (hv.mono hle) ih

def AB.live : AB → Bool
  | .dead => false
  | _ => true
def AB.isOwn : AB → Bool
  | .own .. => true
  | .mp _ => true
  | _ => false

/-- what one block is there -/
def BR (E : Env) (R : RM) (W : World) (r : Reg) : AB → Prop
  | .own vs n t => r.size = n ∧ n ≤ r.room ∧ (∃ i, E.ti t = some i ∧ i.size = r.es) ∧
      ∃ c e fr, W.heap[r.blk]? = some (.cells c e fr) ∧ r.off + r.room ≤ c.size ∧ (∀ i, r.off ≤ i → i < r.off + r.room → ¬ (fr.1 ≤ i ∧ i < fr.2)) ∧
        ∀ i v, vs.get i = some v → i < n ∧ ∃ v', c[r.off + i]? = some v' ∧ VR R v v'
  | .ro vs es => r.es = es ∧ ∃ c e fr, W.heap[r.blk]? = some (.cells c e fr) ∧ ∀ i v, vs.get i = some v → i < r.room ∧ ∃ v', c[r.off + i]? = some v' ∧ VR R v v'
  | .mp es => r.off = 0 ∧ r.room = 1 ∧ ∃ es' clk, W.heap[r.blk]? = some (.map ⟨es'⟩ clk) ∧ MR R es es'
  | .dead => True

structure WRel (E : Env) (R : RM) (h : AH) (W : World) : Prop where
  fresh : ∀ id, h.n ≤ id → R id = none
  wf : ∀ id, h.n ≤ id → h.h.get id = none
  lt : ∀ id r, R id = some r → r.blk < W.heap.size
  blocks : ∀ id r b, R id = some r → h.h.get id = some b → BR E R W r b
  apart : ∀ id id' r r' b b', id ≠ id' → R id = some r → R id' = some r' → h.h.get id = some b → h.h.get id' = some b' → b.isOwn = true → b'.live = true →
    r.blk ≠ r'.blk ∨ r.off + r.room ≤ r'.off ∨ r'.off + r'.room ≤ r.off

/-- a block of the world that the run owns -/
def Own (R : RM) (h : AH) (k : Nat) : Prop := ∃ id r b, R id = some r ∧ h.h.get id = some b ∧ b.isOwn = true ∧ r.blk = k

structure Ext (n0 : Nat) (R : RM) (h : AH) (W : World) (R' : RM) (h' : AH) (W' : World) : Prop where
  le : RM.le R R'
  n : h.n ≤ h'.n
  os : W'.os = W.os
  tape : W'.tape = W.tape
  output : W'.output = W.output
  size : W.heap.size ≤ W'.heap.size
  frame : ∀ k, k < W.heap.size → ¬ Own R h k → W'.heap[k]? = W.heap[k]?
  own : ∀ k, Own R' h' k → Own R h k ∨ W.heap.size ≤ k
  /-- below n0 the map is as it was -/
  fresh : ∀ id, id < n0 → R' id = R id

theorem Ext.refl (n0 : Nat) (R : RM) (h : AH) (W : World) : Ext n0 R h W R h W := ⟨RM.le_refl R, Nat.le_refl _, rfl, rfl, rfl, Nat.le_refl _, fun _ _ _ => rfl, fun _ h => .inl h, fun _ _ => rfl⟩
theorem Ext.trans {n0 n1 : Nat} {R R' R'' : RM} {h h' h'' : AH} {W W' W'' : World} (a : Ext n0 R h W R' h' W') (b : Ext n1 R' h' W' R'' h'' W'') (hn : n0 ≤ n1) : Ext n0 R h W R'' h'' W'' :=
  ⟨RM.le_trans a.le b.le, Nat.le_trans a.n b.n, b.os.trans a.os, b.tape.trans a.tape, b.output.trans a.output, Nat.le_trans a.size b.size,
    fun k hk hn => (b.frame k (Nat.lt_of_lt_of_le hk a.size) fun ho => (a.own k ho).elim hn fun hl => absurd hl (by omega)).trans (a.frame k hk hn),
    fun k ho => (b.own k ho).elim (a.own k) fun hl => .inr (Nat.le_trans a.size hl),
    fun id hid => (b.fresh id (Nat.lt_of_lt_of_le hid hn)).trans (a.fresh id hid)⟩

/-- a draw turns nothing -/
theorem WRel.drew {E : Env} {R : RM} {h : AH} {W : World} (a : WRel E R h W) (d : Nat) : WRel E R h { W with drawn := d } := by
  refine ⟨a.fresh, a.wf, a.lt, fun id r b hr hb => ?_, a.apart⟩
  have := a.blocks id r b hr hb
  cases b <;> exact this
theorem Ext.drew (n0 : Nat) (R : RM) (h : AH) (W : World) (d : Nat) : Ext n0 R h W R h { W with drawn := d } :=
  ⟨RM.le_refl R, Nat.le_refl _, rfl, rfl, rfl, Nat.le_refl _, fun _ _ _ => rfl, fun _ h => .inl h, fun _ _ => rfl⟩

/-! ### reading -/
theorem cell_of {W : World} {k o : Nat} {c : Array Value} {e : TypeId} {fr : Nat × Nat} (h : W.heap[k]? = some (.cells c e fr)) : W.cell? ⟨k, o, none⟩ = c[o]? := by
  simp [World.cell?, h]

theorem load1_rel {E : Env} {R : RM} {h : AH} {W : World} (a : WRel E R h W) {b o : Nat} {v : AV} {r : Reg} (hr : R b = some r) (hl : h.load1 b o = some v) :
    ∃ v', W.cell? ⟨r.blk, r.off + o, none⟩ = some v' ∧ VR R v v' := by
  unfold AH.load1 at hl
  split at hl
  · rename_i vs n t hg
    obtain ⟨_, _, _, c, e, fr, hc, _, _, hv⟩ := a.blocks b r _ hr hg
    obtain ⟨_, v', hv', hvr⟩ := hv _ _ hl
    exact ⟨v', by rw [cell_of hc]; exact hv', hvr⟩
  · rename_i vs es hg
    obtain ⟨_, c, e, fr, hc, hv⟩ := a.blocks b r _ hr hg
    obtain ⟨_, v', hv', hvr⟩ := hv _ _ hl
    exact ⟨v', by rw [cell_of hc]; exact hv', hvr⟩
  · cases hl

theorem loadN_rel {E : Env} {R : RM} {h : AH} {W : World} (a : WRel E R h W) {b o n : Nat} {l : List AV} {r : Reg} (hr : R b = some r) (hl : h.loadN b o n = some l) :
    ∃ l', VRs R l l' ∧ l'.length = n ∧ ∀ j v, l'[j]? = some v → W.cell? ⟨r.blk, r.off + o + j, none⟩ = some v := by
  have key : ∀ (vs : PT AV), getN vs o n = some l → (∀ i v, vs.get i = some v → ∃ v', W.cell? ⟨r.blk, r.off + i, none⟩ = some v' ∧ VR R v v') →
      ∃ l', VRs R l l' ∧ l'.length = n ∧ ∀ j v, l'[j]? = some v → W.cell? ⟨r.blk, r.off + o + j, none⟩ = some v := by
    intro vs hn hv
    obtain ⟨hlen, hg⟩ := getN_spec _ _ _ _ hn
    refine ⟨(List.range n).map fun j => (W.cell? ⟨r.blk, r.off + o + j, none⟩).getD Go.undef, ?_, by simp, ?_⟩
    · refine VRs.of_get (by simp [hlen]) fun i v hi => ?_
      have hin : i < n := by
        have := (List.getElem?_eq_some_iff.1 hi).1
        omega
      obtain ⟨v', hc, hvr⟩ := hv (o + i) v (by rw [hg i hin]; exact hi)
      refine ⟨v', ?_, hvr⟩
      rw [← Nat.add_assoc] at hc
      simp [hin, hc]
    · intro j v hj
      have hjn : j < n := by
        have := (List.getElem?_eq_some_iff.1 hj).1
        simpa using this
      have hlj : j < l.length := by omega
      obtain ⟨v', hc, _⟩ := hv (o + j) l[j] (by rw [hg j hjn]; simp [hlj])
      rw [← Nat.add_assoc] at hc
      simp [hjn, hc] at hj
      rw [hc, hj]
  unfold AH.loadN at hl
  split at hl
  · rename_i vs m t hg
    obtain ⟨_, _, _, c, e, fr, hc, _, _, hv⟩ := a.blocks b r _ hr hg
    refine key vs hl fun i v hi => ?_
    obtain ⟨_, v', hv', hvr⟩ := hv _ _ hi
    exact ⟨v', by rw [cell_of hc]; exact hv', hvr⟩
  · rename_i vs es hg
    obtain ⟨_, c, e, fr, hc, hv⟩ := a.blocks b r _ hr hg
    refine key vs hl fun i v hi => ?_
    obtain ⟨_, v', hv', hvr⟩ := hv _ _ hi
    exact ⟨v', by rw [cell_of hc]; exact hv', hvr⟩
  · cases hl

end Go.AE
