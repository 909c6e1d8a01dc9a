import Derived.Calls
namespace Go.AE

/-! ### a map from numbers, made so that the kernel reads it quickly -/
inductive PT (α : Type) where
  | leaf
  | node (l : PT α) (v : Option α) (r : PT α)

namespace PT
variable {α : Type}
def get : PT α → Nat → Option α
  | .leaf, _ => none
  | .node l v r, n => match n with
    | 0 => v
    | m + 1 => match m % 2 with
      | 0 => l.get (m / 2)
      | _ + 1 => r.get (m / 2)

/-- the tree, read to its head, then handed on -/
def seq {β : Type} (t : PT α) (k : PT α → β) : β := match t with
  | .leaf => k .leaf
  | .node l v r => k (.node l v r)
@[simp] theorem seq_eq {β : Type} (t : PT α) (k : PT α → β) : t.seq k = k t := by cases t <;> rfl

def setF : Nat → PT α → Nat → α → PT α
  | 0, t, _, _ => t
  | f + 1, t, n, x => match n with
    | 0 => match t with
      | .leaf => .node .leaf (some x) .leaf
      | .node l _ r => .node l (some x) r
    | m + 1 => match m % 2 with
      | 0 => match t with
        | .leaf => (setF f .leaf (m / 2) x).seq fun l => .node l none .leaf
        | .node l v r => (setF f l (m / 2) x).seq fun l => .node l v r
      | _ + 1 => match t with
        | .leaf => (setF f .leaf (m / 2) x).seq fun r => .node .leaf none r
        | .node l v r => (setF f r (m / 2) x).seq fun r => .node l v r
def set (t : PT α) (n : Nat) (x : α) : PT α := setF (n + 1) t n x

theorem get_leaf (n : Nat) : (PT.leaf : PT α).get n = none := rfl

theorem get_setF (x : α) : ∀ (f : Nat) (t : PT α) (n : Nat), n < f → ∀ k, (setF f t n x).get k = if k = n then some x else t.get k := by
  intro f
  induction f with
  | zero => intro t n h; omega
  | succ f ih =>
    intro t n h k
    cases n with
    | zero =>
      simp only [setF]
      cases t with
      | leaf => cases k with
        | zero => simp [get]
        | succ k => simp only [get]; split <;> simp
      | node l v r => cases k with
        | zero => simp [get]
        | succ k => simp [get]
    | succ m =>
      have hm : m / 2 < f := by omega
      simp only [setF]
      split
      · rename_i h0
        have key : ∀ (l : PT α) (v : Option α) (r : PT α), (PT.node (setF f l (m / 2) x) v r).get k = if k = m + 1 then some x else (PT.node l v r).get k := by
          intro l v r
          cases k with
          | zero => simp [get]
          | succ k =>
            simp only [get]
            split
            · rename_i hk
              rw [ih l _ hm]
              by_cases e : k / 2 = m / 2
              · have : k = m := by omega
                simp [this]
              · have : k ≠ m := by omega
                simp [e, this]
            · rename_i hk
              have : k ≠ m := by omega
              simp [this]
        cases t with
        | leaf =>
          simp only [seq_eq]
          rw [key]
          cases k with
          | zero => simp [get]
          | succ k => simp only [get]; split <;> first | rfl | (split <;> rfl)
        | node l v r => simp only [seq_eq]; rw [key]
      · rename_i h0
        have key : ∀ (l : PT α) (v : Option α) (r : PT α), (PT.node l v (setF f r (m / 2) x)).get k = if k = m + 1 then some x else (PT.node l v r).get k := by
          intro l v r
          cases k with
          | zero => simp [get]
          | succ k =>
            simp only [get]
            split
            · rename_i hk
              have : k ≠ m := by omega
              simp [this]
            · rename_i hk
              rw [ih r _ hm]
              by_cases e : k / 2 = m / 2
              · have : k = m := by omega
                simp [this]
              · have : k ≠ m := by omega
                simp [e, this]
        cases t with
        | leaf =>
          simp only [seq_eq]
          rw [key]
          cases k with
          | zero => simp [get]
          | succ k => simp only [get]; split <;> first | rfl | (split <;> rfl)
        | node l v r => simp only [seq_eq]; rw [key]

theorem get_set (t : PT α) (n : Nat) (x : α) (k : Nat) : (t.set n x).get k = if k = n then some x else t.get k := get_setF x _ t n (by omega) k
end PT

/-! ### values -/
inductive AV where
  | bool (b : Bool)
  | int (k : IntKind) (n : Int)
  | str (s : List UInt8)
  | nilp
  | ptr (b o : Nat)
  | nils
  | slc (b o len cap : Nat)
  | nilm
  | map (r : Nat)
  | nilf
  | fn (f : FuncId) (first caps : List AV)
  | nili
  | iface (t : TypeId) (v : AV)
  | agg (l : List AV)
  | tup (l : List AV)

def AV.undef : AV := .tup []

/-- a value of one cell that names no memory -/
def ofV1 : Value → Option AV
  | .bool b => some (.bool b)
  | .int k n => some (.int k n)
  | .string s => some (.str s.data.toList)
  | .pointer none => some .nilp
  | .slice none 0 0 => some .nils
  | .map none => some .nilm
  | .nilFunc => some .nilf
  | .nilIface => some .nili
  | _ => none

def ofVs : List Value → Option (List AV)
  | [] => some []
  | v :: l => match ofV1 v with
    | some a => match ofVs l with
      | some r => some (a :: r)
      | none => none
    | none => none

def ofV : Value → Option AV
  | .agg cs => match ofVs cs.toList with
    | some l => some (.agg l)
    | none => none
  | .tuple cs => match ofVs cs.toList with
    | some l => some (.tup l)
    | none => none
  | v => ofV1 v

def AV.cells : AV → List AV
  | .agg l => l
  | v => [v]

/-- one cell -/
def AV.one : AV → Bool
  | .agg _ | .tup _ => false
  | _ => true

/-! ### lists, so that the kernel reads them quickly -/
def nth {α : Type} : List α → Nat → Option α
  | [], _ => none
  | a :: l, n => match n with
    | 0 => some a
    | n + 1 => nth l n

def upd {α : Type} : List α → Nat → α → List α
  | [], _, _ => []
  | a :: l, n, x => match n with
    | 0 => x :: l
    | n + 1 => a :: upd l n x

/-- n values from o on -/
def getN {α : Type} (t : PT α) (o : Nat) : Nat → Option (List α)
  | 0 => some []
  | n + 1 => match t.get o with
    | some a => match getN t (Nat.succ o) n with
      | some l => some (a :: l)
      | none => none
    | none => none

/-- the values from o on, one after the other -/
def setN {α : Type} (t : PT α) (o : Nat) : List α → PT α
  | [] => t
  | a :: l => setN (t.set o a) (Nat.succ o) l

/-- n values of a list from o on -/
def takeN {α : Type} : Nat → List α → Option (List α)
  | 0, _ => some []
  | n + 1, l => match l with
    | [] => none
    | a :: l => match takeN n l with
      | some r => some (a :: r)
      | none => none

def grab {α : Type} : List α → Nat → Nat → Option (List α)
  | l, o, n => match o with
    | 0 => takeN n l
    | o + 1 => match l with
      | [] => none
      | _ :: l => grab l o n

/-- the new cells over the old ones from the head on -/
def over {α : Type} : List α → List α → Option (List α)
  | l, [] => some l
  | [], _ :: _ => none
  | _ :: l, x :: xs => match over l xs with
    | some r => some (x :: r)
    | none => none

def putAt {α : Type} : List α → Nat → List α → Option (List α)
  | l, o, xs => match o with
    | 0 => over l xs
    | o + 1 => match l with
      | [] => none
      | a :: l => match putAt l o xs with
        | some r => some (a :: r)
        | none => none

/-! ### the heap -/
/-- own: cells of the run's own (and how many); ro: cells that are only read; mp: a map -/
inductive AB where
  | own (vs : PT AV) (n : Nat) (t : TypeId)
  | ro (vs : PT AV) (es : Nat)
  | mp (es : List (AV × AV))
  | dead

structure AH where
  h : PT AB
  n : Nat

def AH.new (h : AH) (b : AB) : AH := ⟨h.h.set h.n b, Nat.succ h.n⟩
def AH.put (h : AH) (i : Nat) (b : AB) : AH := ⟨h.h.set i b, h.n⟩
def ownL (l : List AV) (t : TypeId) : AB := .own (setN .leaf 0 l) l.length t

def AH.load1 (h : AH) (b o : Nat) : Option AV := match h.h.get b with
  | some (.own vs _ _) => vs.get o
  | some (.ro vs _) => vs.get o
  | _ => none

def AH.loadN (h : AH) (b o n : Nat) : Option (List AV) := match h.h.get b with
  | some (.own vs _ _) => getN vs o n
  | some (.ro vs _) => getN vs o n
  | _ => none

def AH.store (h : AH) (b o : Nat) (xs : List AV) : Option AH := match h.h.get b with
  | some (.own vs n t) => match Nat.ble (Nat.add o xs.length) n with
    | true => some (h.put b (.own (setN vs o xs) n t))
    | false => none
  | _ => none

/-! ### what is known of the program -/
structure TI where
  d : TypeDesc
  size : Nat
  bytes : Nat
  zero : Option (List AV)
  zagg : Bool
  eqg : Bool
  stood : Bool

structure FI where
  body : Code
  ntmps : Nat
  results : List ResultVar

/-- functions of the library that have no Go body -/
inductive AExt where
  | cmp

structure Env where
  ext : Nat → Option AExt
  ti : Nat → Option TI
  fn : Nat → Option FI
  link : Nat → Option Nat

def isAggD : TypeDesc → Bool
  | .struct _ | .array _ _ => true
  | _ => false

/-! ### operations on values -/
/-- an integer, read, then handed on -/
def fnat {β : Type} (n : Nat) (k : Nat → β) : β := match n with
  | 0 => k 0
  | m + 1 => k (m + 1)
def fint {β : Type} (n : Int) (k : Int → β) : β := match n with
  | .ofNat m => fnat m fun m => k (.ofNat m)
  | .negSucc m => fnat m fun m => k (.negSucc m)
@[simp] theorem fnat_eq {β : Type} (n : Nat) (k : Nat → β) : fnat n k = k n := by cases n <;> rfl
@[simp] theorem fint_eq {β : Type} (n : Int) (k : Int → β) : fint n k = k n := by cases n <;> simp [fint]

def kEq : IntKind → IntKind → Bool
  | .i8, .i8 => true | .i16, .i16 => true | .i32, .i32 => true | .i64, .i64 => true
  | .u8, .u8 => true | .u16, .u16 => true | .u32, .u32 => true | .u64, .u64 => true
  | _, _ => false

/-- 2 to the kind's bits -/
def kMod : IntKind → Nat
  | .i8 => 256 | .u8 => 256
  | .i16 => 65536 | .u16 => 65536
  | .i32 => 4294967296 | .u32 => 4294967296
  | .i64 => 18446744073709551616 | .u64 => 18446744073709551616

/-- a number below 2 to the bits, as the kind reads it -/
def kRead (k : IntKind) (r : Nat) : AV := match k with
  | .u8 => .int .u8 (.ofNat r)
  | .u16 => .int .u16 (.ofNat r)
  | .u32 => .int .u32 (.ofNat r)
  | .u64 => .int .u64 (.ofNat r)
  | .i8 => match Nat.ble 128 r with
    | true => .int .i8 (.negSucc (Nat.sub 255 r))
    | false => .int .i8 (.ofNat r)
  | .i16 => match Nat.ble 32768 r with
    | true => .int .i16 (.negSucc (Nat.sub 65535 r))
    | false => .int .i16 (.ofNat r)
  | .i32 => match Nat.ble 2147483648 r with
    | true => .int .i32 (.negSucc (Nat.sub 4294967295 r))
    | false => .int .i32 (.ofNat r)
  | .i64 => match Nat.ble 9223372036854775808 r with
    | true => .int .i64 (.negSucc (Nat.sub 18446744073709551615 r))
    | false => .int .i64 (.ofNat r)

/-- a whole number, wrapped to its kind -/
def mkInt (k : IntKind) (n : Int) : AV := match n with
  | .ofNat m => fnat (Nat.mod m (kMod k)) fun r => kRead k r
  | .negSucc m => fnat (Nat.sub (Nat.sub (kMod k) 1) (Nat.mod m (kMod k))) fun r => kRead k r

/-- a whole number as it is -/
def mkRaw (k : IntKind) (n : Int) : AV := fint n fun n => .int k n

def allLe {α : Type} (p : α → Bool) : List α → Bool
  | [] => true
  | a :: l => match p a with
    | true => allLe p l
    | false => false

def u8eq : List UInt8 → List UInt8 → Bool
  | [], [] => true
  | a :: x, b :: y => match Nat.beq a.toNat b.toNat with
    | true => u8eq x y
    | false => false
  | _, _ => false

def u8lt : List UInt8 → List UInt8 → Bool
  | _, [] => false
  | [], _ :: _ => true
  | a :: x, b :: y => match Nat.blt a.toNat b.toNat with
    | true => true
    | false => match Nat.beq a.toNat b.toNat with
      | true => u8lt x y
      | false => false

def mostStr : Nat := 4611686018427387904

def iEq : Int → Int → Bool
  | .ofNat a, .ofNat b => Nat.beq a b
  | .negSucc a, .negSucc b => Nat.beq a b
  | _, _ => false
def iLt : Int → Int → Bool
  | .ofNat a, .ofNat b => Nat.blt a b
  | .negSucc a, .negSucc b => Nat.blt b a
  | .negSucc _, .ofNat _ => true
  | .ofNat _, .negSucc _ => false
def iAdd : Int → Int → Int
  | .ofNat a, .ofNat b => .ofNat (Nat.add a b)
  | a, b => Int.add a b
def iSub : Int → Int → Int
  | .ofNat a, .ofNat b => match Nat.ble b a with
    | true => .ofNat (Nat.sub a b)
    | false => .negSucc (Nat.sub (Nat.sub b a) 1)
  | a, b => Int.sub a b
def iMul : Int → Int → Int
  | .ofNat a, .ofNat b => .ofNat (Nat.mul a b)
  | a, b => Int.mul a b

def aQuo (k : IntKind) (a b : Int) : Option AV := match a, b with
  | .ofNat x, .ofNat y => match y with
    | 0 => none
    | y + 1 => some (mkInt k (.ofNat (Nat.div x (Nat.succ y))))
  | a, .negSucc y => some (mkInt k (Int.tdiv a (.negSucc y)))
  | a, .ofNat y => match y with
    | 0 => none
    | y + 1 => some (mkInt k (Int.tdiv a (.ofNat (Nat.succ y))))
def aRem (k : IntKind) (a b : Int) : Option AV := match a, b with
  | .ofNat x, .ofNat y => match y with
    | 0 => none
    | y + 1 => some (mkRaw k (.ofNat (Nat.mod x (Nat.succ y))))
  | a, .negSucc y => some (mkRaw k (Int.tmod a (.negSucc y)))
  | a, .ofNat y => match y with
    | 0 => none
    | y + 1 => some (mkRaw k (Int.tmod a (.ofNat (Nat.succ y))))

/-- an integer's bits -/
def kBits (k : IntKind) (n : Int) : Nat := match n with
  | .ofNat m => Nat.mod m (kMod k)
  | .negSucc m => Nat.sub (Nat.sub (kMod k) 1) (Nat.mod m (kMod k))

def aInt2 (op : BinOp) (k : IntKind) (a b : Int) : Option AV := match op with
  | .add => some (mkInt k (iAdd a b))
  | .sub => some (mkInt k (iSub a b))
  | .mul => some (mkInt k (iMul a b))
  | .quo => aQuo k a b
  | .rem => aRem k a b
  | .and => some (mkInt k (.ofNat (Nat.land (kBits k a) (kBits k b))))
  | .or => some (mkInt k (.ofNat (Nat.lor (kBits k a) (kBits k b))))
  | .xor => some (mkInt k (.ofNat (Nat.xor (kBits k a) (kBits k b))))
  | .andNot => some (mkInt k (.ofNat (Nat.land (kBits k a) (Nat.sub (Nat.sub (kMod k) 1) (kBits k b)))))
  | .eql => some (.bool (iEq a b))
  | .neq => some (.bool (!iEq a b))
  | .lss => some (.bool (iLt a b))
  | .leq => some (.bool (!iLt b a))
  | .gtr => some (.bool (iLt b a))
  | .geq => some (.bool (!iLt a b))
  | _ => none

def kW : IntKind → Nat
  | .i8 => 8 | .u8 => 8 | .i16 => 16 | .u16 => 16 | .i32 => 32 | .u32 => 32 | .i64 => 64 | .u64 => 64

def shN (k : IntKind) (n : Nat) : Nat := match Nat.ble n (kW k) with
  | true => n
  | false => kW k

def aShl (k : IntKind) (a b : Int) : Option AV := match b with
  | .ofNat n => match a with
    | .ofNat x => some (mkInt k (.ofNat (Nat.mul x (Nat.pow 2 (shN k n)))))
    | .negSucc x => some (mkInt k (Int.mul (.negSucc x) (.ofNat (Nat.pow 2 (shN k n)))))
  | .negSucc _ => none
def aShr (k : IntKind) (a b : Int) : Option AV := match b with
  | .ofNat n => match a with
    | .ofNat x => some (mkRaw k (.ofNat (Nat.div x (Nat.pow 2 (shN k n)))))
    | .negSucc x => some (mkRaw k (Int.fdiv (.negSucc x) (.ofNat (Nat.pow 2 (shN k n)))))
  | .negSucc _ => none

def aStr2 (op : BinOp) (a b : List UInt8) : Option AV := match op with
  | .add => if a.length + b.length ≤ mostStr then some (.str (a ++ b)) else none
  | .eql => some (.bool (u8eq a b))
  | .neq => some (.bool (!u8eq a b))
  | .lss => some (.bool (u8lt a b))
  | .leq => some (.bool (u8lt a b || u8eq a b))
  | .gtr => some (.bool !(u8lt a b || u8eq a b))
  | .geq => some (.bool !u8lt a b)
  | _ => none

/-- a part of an aggregate -/
def aPart (E : Env) (t : TypeId) (cs : List AV) (off : Nat) : Option AV := match E.ti t with
  | some i => match isAggD i.d with
    | true => match grab cs off i.size with
      | some l => some (.agg l)
      | none => none
    | false => nth cs off
  | none => none

/-- fields, one after the other, by an '==' of their types -/
def eqFields (E : Env) (eq : TypeId → AV → AV → Option Bool) (xs ys : List AV) : List Field → Option Bool
  | [] => some true
  | f :: fs => if f.name = "_" then none else
    match aPart E f.type xs f.offset, aPart E f.type ys f.offset with
    | some a, some b => match eq f.type a b with
      | some true => eqFields E eq xs ys fs
      | some false => some false
      | none => none
    | _, _ => none

/-- '==' at a type; none: it isn't told -/
def aEq (E : Env) : Nat → TypeId → AV → AV → Option Bool
  | 0, _, _, _ => none
  | d + 1, t, x, y => match E.ti t with
    | none => none
    | some i => match i.d, x, y with
      | .bool, .bool a, .bool b => some (match a, b with | true, true => true | false, false => true | _, _ => false)
      | .int _, .int k a, .int k' b => match kEq k k' with
        | true => some (iEq a b)
        | false => none
      | .string, .str a, .str b => some (u8eq a b)
      | .pointer _, .nilp, .nilp => some true
      | .pointer _, .nilp, .ptr _ _ => some false
      | .pointer _, .ptr _ _, .nilp => some false
      | .pointer e, .ptr b o, .ptr b' o' => match E.ti e with
        | some j => match j.size with
          | 0 => none
          | _ + 1 => match Nat.beq b b' with
            | true => some (Nat.beq o o')
            | false => none
        | none => none
      | .slice _, .nils, .nils => some true
      | .slice _, .nils, .slc .. => some false
      | .slice _, .slc .., .nils => some false
      | .map _ _, .nilm, .nilm => some true
      | .map _ _, .nilm, .map _ => some false
      | .map _ _, .map _, .nilm => some false
      | .func _ _ _, .nilf, .nilf => some true
      | .func _ _ _, .nilf, .fn _ _ _ => some false
      | .func _ _ _, .fn _ _ _, .nilf => some false
      | .struct fs, .agg xs, .agg ys => match i.stood with
        | true => none
        | false => eqFields E (aEq E d) xs ys fs.toList
      | _, _, _ => none

def aBin (E : Env) (op : BinOp) (t : TypeId) (x y : AV) : Option AV :=
  let eq (neg : Bool) : Option AV := match x with
    | .agg _ => match E.ti t with
      | some i => match i.eqg with
        | true => none
        | false => match aEq E 10000 t x y with
          | some b => some (.bool (match neg, b with | true, true => false | true, false => true | false, b => b))
          | none => none
      | none => none
    | _ => match aEq E 10000 t x y with
      | some b => some (.bool (match neg, b with | true, true => false | true, false => true | false, b => b))
      | none => none
  match op, x, y with
  | .shl, .int k a, .int _ b => aShl k a b
  | .shr, .int k a, .int _ b => aShr k a b
  | op, .int k a, .int k' b => match kEq k k' with
    | true => aInt2 op k a b
    | false => none
  | op, .str a, .str b => aStr2 op a b
  | .eql, _, _ => eq false
  | .neq, _, _ => eq true
  | _, _, _ => none

def aUn (op : UnOp) (x : AV) : Option AV := match op, x with
  | .neg, .int k n => some (mkInt k (iSub (.ofNat 0) n))
  | .xor, .int k n => some (mkInt k (.ofNat (Nat.xor (Nat.sub (kMod k) 1) (kBits k n))))
  | .not, .bool b => some (.bool !b)
  | _, _ => none

def bytesOf : List AV → Option (List UInt8)
  | [] => some []
  | .int .u8 n :: l => match bytesOf l with
    | some r => some (UInt8.ofNat n.toNat :: r)
    | none => none
  | _ => none

def ofBytes : List UInt8 → List AV
  | [] => []
  | b :: l => .int .u8 b.toNat :: ofBytes l

inductive OR where
  | val (v : AV) (h : AH)
  | enter (f : Nat) (args : List AV)

def OR.of (v : Option AV) (h : AH) : Option OR := match v with
  | some v => some (.val v h)
  | none => none

def aConv (E : Env) (src dst : TypeId) (x : AV) (h : AH) : Option OR := match E.ti src, E.ti dst with
  | some s, some d => match s.d, d.d, x with
    | _, .int k, .int _ n => some (.val (mkInt k n) h)
    | _, .string, .str l => some (.val (.str l) h)
    | _, .slice e, .str l => match E.ti e with
      | some i => match i.d with
        | .int .u8 => match i.size with
          | 1 => some (.val (.slc h.n 0 l.length l.length) (h.new (ownL (ofBytes l) e)))
          | _ => none
        | _ => none
      | none => none
    | .slice e, .string, x => match E.ti e with
      | some i => match i.d with
        | .int .u8 => match x with
          | .nils => some (.val (.str []) h)
          | .slc b o n _ => match h.loadN b o n with
            | some cs => match bytesOf cs with
              | some l => some (.val (.str l) h)
              | none => none
            | none => none
          | _ => none
        | _ => none
      | none => none
    | _, _, _ => none
  | _, _ => none

def aEval (T : PT AV) : Operand → Option AV
  | .tmp t => T.get t
  | .const v => ofV v
  | .func f => some (.fn f [] [])
  | .global _ => none

def aEvals (T : PT AV) : List Operand → Option (List AV)
  | [] => some []
  | x :: l => match aEval T x with
    | some v => match aEvals T l with
      | some r => some (v :: r)
      | none => none
    | none => none

def aParts (T : PT AV) : List (Nat × Operand) → Option (List (Nat × AV))
  | [] => some []
  | (i, x) :: l => match aEval T x with
    | some v => match aParts T l with
      | some r => some ((i, v) :: r)
      | none => none
    | none => none

/-- the parts of a composite laid over its cells -/
def aFill (place : Nat → Option (Nat × Nat)) (cells : List AV) : List (Nat × AV) → Option (List AV)
  | [] => some cells
  | (i, v) :: rest => match place i with
    | none => none
    | some (off, size) => match Nat.beq v.cells.length size with
      | false => none
      | true => match putAt cells off v.cells with
        | some cells => aFill place cells rest
        | none => none

def rep {α : Type} : Nat → List α → List α
  | 0, _ => []
  | n + 1, l => l ++ rep n l

/-- a bound of a slice expression -/
def aBound (T : PT AV) (x : Option Operand) (dflt most : Nat) : Option Nat := match x with
  | none => some dflt
  | some o => match aEval T o with
    | some (.int _ (.ofNat i)) => match Nat.ble i most with
      | true => some i
      | false => none
    | _ => none

def aLoad (E : Env) (t : TypeId) (h : AH) (b o : Nat) : Option AV := match E.ti t with
  | some i => match isAggD i.d with
    | true => match h.loadN b o i.size with
      | some l => some (.agg l)
      | none => none
    | false => h.load1 b o
  | none => none

def findE (E : Env) (kt : TypeId) (k : AV) : List (AV × AV) → Nat → Option (Option (Nat × AV))
  | [], _ => some none
  | e :: es, i => match aEq E 10000 kt k e.1 with
    | some true => some (some (i, e.2))
    | some false => findE E kt k es (i + 1)
    | none => none

/-- a key that a map of this type may have: an integer or a string -/
def keyOk (d : TypeDesc) (k : AV) : Bool := match d, k with
  | .int _, .int _ _ => true
  | .string, .str _ => true
  | _, _ => false

def setE : List (AV × AV) → Nat → AV → AV → List (AV × AV)
  | [], _, _, _ => []
  | e :: es, i, k, v => match i with
    | 0 => (k, v) :: es
    | i + 1 => e :: setE es i k v

def dropE : List (AV × AV) → Nat → List (AV × AV)
  | [], _ => []
  | e :: es, i => match i with
    | 0 => es
    | i + 1 => e :: dropE es i

def room (need bytes : Nat) : Bool := Nat.ble ((2 * need + 192) * bytes) 281474976710656 && Nat.ble need 4611686018427387904

/-- does append take so many zeros, as 'append(s, make([]T, n)...)' does? -/
def appZeros (E : Env) (argTypes : Array TypeId) : Option Bool := match argTypes[1]? with
  | some xt => match E.ti xt with
    | some xi => match xi.d with
      | .int _ => some true
      | _ => some false
    | none => none
  | none => some false

/-- what is appended: how many elements, their cells -/
def newOf (E : Env) (zeros : Bool) (ei : TI) (x : AV) (h : AH) : Option (Nat × List AV) := match zeros, x with
  | true, .int _ (.ofNat n) => match ei.zero with
    | some z => match Nat.ble n 1073741824 && Nat.ble (n * ei.bytes) 281474976710656 with
      | true => some (n, rep n z)
      | false => none
    | none => none
  | false, .nils => some (0, [])
  | false, .str l => match ei.size with
    | 1 => some (l.length, ofBytes l)
    | _ => none
  | false, .slc b o n _ => match h.loadN b o (n * ei.size) with
    | some l => some (n, l)
    | none => none
  | _, _ => none

def appendTo (ei : TI) (e : TypeId) (s : AV) (n : Nat) (l : List AV) (h : AH) : Option OR := match n with
  | 0 => match s with
    | .nils => some (.val s h)
    | .slc _ _ len cap => match Nat.ble len cap with
      | true => some (.val s h)
      | false => none
    | _ => none
  | m + 1 => match allLe AV.one l with
    | false => none
    | true => match s with
      | .nils => match room (Nat.succ m) ei.bytes with
        | true => some (.val (.slc h.n 0 (Nat.succ m) (Nat.succ m)) (h.new (ownL l e)))
        | false => none
      | .slc b o len cap => match Nat.ble (Nat.add len (Nat.succ m)) cap with
        | true => match h.store b (o + len * ei.size) l with
          | some h => some (.val (.slc b o (Nat.add len (Nat.succ m)) cap) h)
          | none => none
        | false => match room (Nat.add len (Nat.succ m)) ei.bytes with
          | true => match h.h.get b with
            | some (.own vs k t) => match Nat.beq t e with
              | true => match Nat.beq (o + cap * ei.size) k with
                | true => match getN vs o (len * ei.size) with
                  | some old => some (.val (.slc h.n 0 (Nat.add len (Nat.succ m)) (Nat.add len (Nat.succ m))) ((h.put b .dead).new (ownL (old ++ l) e)))
                  | none => none
                | false => none
              | false => none
            | _ => none
          | false => none
      | _ => none

def aAppend (E : Env) (argTypes : Array TypeId) (s x : AV) (h : AH) : Option OR := match argTypes[0]? with
  | none => none
  | some st => match E.ti st with
    | none => none
    | some si => match si.d with
      | .slice e => match E.ti e with
        | none => none
        | some ei => match ei.zero with
          | none => none
          | some _ => match appZeros E argTypes with
            | none => none
            | some zeros => match newOf E zeros ei x h with
              | none => none
              | some (n, l) => appendTo ei e s n l h
      | _ => none

def cmpB : List UInt8 → List UInt8 → Int
  | [], l => match l with
    | [] => 0
    | _ :: _ => -1
  | a :: x, l => match l with
    | [] => 1
    | b :: y => match Nat.blt a.toNat b.toNat with
      | true => -1
      | false => match Nat.blt b.toNat a.toNat with
        | true => 1
        | false => cmpB x y

def aExt (e : AExt) (args : List AV) (h : AH) : Option OR := match e, args with
  | .cmp, [.str a, .str b] => some (.val (.int .i64 (cmpB a b)) h)
  | _, _ => none

def mapEs (h : AH) (m : AV) : Option (List (AV × AV)) := match m with
  | .nilm => some []
  | .map r => match h.h.get r with
    | some (.mp es) => some es
    | _ => none
  | _ => none

def aLen (E : Env) (t : TypeId) (x : AV) (h : AH) : Option OR := match E.ti t with
  | none => none
  | some i => match i.d, x with
    | .string, .str l => some (.val (.int .i64 (.ofNat l.length)) h)
    | .array n _, _ => some (.val (.int .i64 (.ofNat n)) h)
    | .slice _, .nils => some (.val (.int .i64 (.ofNat 0)) h)
    | .slice _, .slc _ _ n _ => some (.val (.int .i64 (.ofNat n)) h)
    | .map _ _, m => match mapEs h m with
      | some es => some (.val (.int .i64 (.ofNat es.length)) h)
      | none => none
    | _, _ => none

/-- what is copied: how many elements, their cells -/
def copySrc (ei : TI) (x : AV) (len : Nat) (h : AH) : Option (Nat × List AV) := match x with
  | .nils => some (0, [])
  | .str l => match ei.size with
    | 1 => some (min l.length len, ofBytes (l.take len))
    | _ => none
  | .slc b o n _ => match h.loadN b o (min n len * ei.size) with
    | some l => some (min n len, l)
    | none => none
  | _ => none

def aCopy (E : Env) (t : TypeId) (d s : AV) (h : AH) : Option OR := match E.ti t with
  | none => none
  | some i => match i.d with
    | .slice e => match E.ti e with
      | none => none
      | some ei => match d with
        | .nils => match copySrc ei s 0 h with
          | some _ => some (.val (.int .i64 (.ofNat 0)) h)
          | none => none
        | .slc b o len _ => match copySrc ei s len h with
          | some (n, l) => match n with
            | 0 => some (.val (.int .i64 (.ofNat 0)) h)
            | n + 1 => match allLe AV.one l with
              | true => match h.store b o l with
                | some h => some (.val (.int .i64 (.ofNat (Nat.succ n))) h)
                | none => none
              | false => none
          | none => none
        | _ => none
    | _ => none

def aClear (E : Env) (t : TypeId) (x : AV) (h : AH) : Option OR := match E.ti t with
  | none => none
  | some i => match i.d, x with
    | .slice _, .nils => some (.val (.tup []) h)
    | .slice e, .slc b o n _ => match n with
      | 0 => some (.val (.tup []) h)
      | n + 1 => match E.ti e with
        | some ei => match ei.zero with
          | some z => match h.store b o (rep (Nat.succ n) z) with
            | some h => some (.val (.tup []) h)
            | none => none
          | none => none
        | none => none
    | .map _ _, .nilm => some (.val (.tup []) h)
    | .map _ _, .map r => match h.h.get r with
      | some (.mp _) => some (.val (.tup []) (h.put r (.mp [])))
      | _ => none
    | _, _ => none

def aDelete (E : Env) (t : TypeId) (m k : AV) (h : AH) : Option OR := match E.ti t with
  | none => none
  | some i => match i.d with
    | .map kt _ => match E.ti kt with
      | none => none
      | some ki => match keyOk ki.d k with
        | false => none
        | true => match m with
          | .nilm => some (.val (.tup []) h)
          | .map r => match h.h.get r with
            | some (.mp es) => match findE E kt k es 0 with
              | some (some (j, _)) => some (.val (.tup []) (h.put r (.mp (dropE es j))))
              | some none => some (.val (.tup []) (h.put r (.mp es)))
              | none => none
            | _ => none
          | _ => none
    | _ => none

def aBuiltin (E : Env) (b : Builtin) (argTypes : Array TypeId) (args : List AV) (h : AH) : Option OR := match b, args with
  | .append, [s, x] => aAppend E argTypes s x h
  | .len, [x] => match argTypes[0]? with
    | none => none
    | some t => aLen E t x h
  | .copy, [d, s] => match argTypes[0]? with
    | none => none
    | some t => aCopy E t d s h
  | .clear, [x] => match argTypes[0]? with
    | none => none
    | some t => aClear E t x h
  | .delete, [m, k] => match argTypes[0]? with
    | none => none
    | some t => aDelete E t m k h
  | .min, [.int k x, .int k' y] => match kEq k k' with
    | true => some (.val (.int k (match iLt y x with | true => y | false => x)) h)
    | false => none
  | .max, [.int k x, .int k' y] => match kEq k k' with
    | true => some (.val (.int k (match iLt x y with | true => y | false => x)) h)
    | false => none
  | _, _ => none

def oMove (T : PT AV) (x : Operand) (h : AH) : Option OR := match aEval T x with
  | some v => some (.val v h)
  | none => none

def oPick (T : PT AV) (c a b : Operand) (h : AH) : Option OR := match aEval T c with
  | some (.bool true) => match aEval T a with
    | some v => some (.val v h)
    | none => none
  | some (.bool false) => match aEval T b with
    | some v => some (.val v h)
    | none => none
  | _ => none

/-- operations that make memory: the block, and the value that names it -/
abbrev NewR := Option (AB × (Nat → AV))

def nAlloc (E : Env) (t : TypeId) : NewR := match E.ti t with
  | some i => match i.zero with
    | some z => some (ownL z t, fun id => .ptr id 0)
    | none => none
  | none => none

def nBox (E : Env) (T : PT AV) (t : TypeId) (x : Operand) : NewR := match aEval T x with
  | some v => match allLe AV.one v.cells with
    | true => match E.ti t with
      | some _ => some (ownL v.cells t, fun id => .ptr id 0)
      | none => none
    | false => none
  | none => none

def placeS (E : Env) (fs : List Field) (j : Nat) : Option (Nat × Nat) := match nth fs j with
  | some f => match E.ti f.type with
    | some fi => some (f.offset, fi.size)
    | none => none
  | none => none

def oBuild (E : Env) (T : PT AV) (t : TypeId) (parts : List (Nat × Operand)) (h : AH) : Option OR := match E.ti t with
  | some i => match aParts T parts with
    | some ps => match i.zero with
      | some z => match i.d with
        | .struct fs => match aFill (placeS E fs.toList) z ps with
          | some l => some (.val (.agg l) h)
          | none => none
        | .array _ e => match E.ti e with
          | some ei => match aFill (fun j => some (j * ei.size, ei.size)) z ps with
            | some l => some (.val (.agg l) h)
            | none => none
          | none => none
        | _ => none
      | none => none
    | none => none
  | none => none

def nBuildSlice (E : Env) (T : PT AV) (t : TypeId) (len : Nat) (parts : List (Nat × Operand)) : NewR := match E.ti t with
  | some i => match aParts T parts with
    | some ps => match i.d with
      | .slice e => match E.ti e with
        | some ei => match ei.zero with
          | some z => match Nat.ble (len * ei.size) 16777216 with
            | true => match aFill (fun j => some (j * ei.size, ei.size)) (rep len z) ps with
              | some l => match allLe AV.one l with
                | true => some (ownL l e, fun id => .slc id 0 len len)
                | false => none
              | none => none
            | false => none
          | none => none
        | none => none
      | _ => none
    | none => none
  | none => none

def oLoad (E : Env) (T : PT AV) (t : TypeId) (x : Operand) (h : AH) : Option OR := match aEval T x with
  | some (.ptr b o) => match aLoad E t h b o with
    | some v => some (.val v h)
    | none => none
  | _ => none

def oStore (E : Env) (T : PT AV) (t : TypeId) (x y : Operand) (h : AH) : Option OR := match aEval T x with
  | some (.ptr b o) => match aEval T y with
    | some v => match E.ti t with
      | some i => match Nat.beq v.cells.length i.size with
        | true => match allLe AV.one v.cells with
          | true => match h.store b o v.cells with
            | some h => some (.val AV.undef h)
            | none => none
          | false => none
        | false => none
      | none => none
    | none => none
  | _ => none

def oNilCheck (T : PT AV) (x : Operand) (h : AH) : Option OR := match aEval T x with
  | some (.ptr b o) => some (.val (.ptr b o) h)
  | some (.fn f a c) => some (.val (.fn f a c) h)
  | _ => none

def oBin (E : Env) (T : PT AV) (op : BinOp) (t : TypeId) (x y : Operand) (h : AH) : Option OR := match aEval T x with
  | some a => match aEval T y with
    | some b => match aBin E op t a b with
      | some v => some (.val v h)
      | none => none
    | none => none
  | none => none

def oUn (T : PT AV) (op : UnOp) (x : Operand) (h : AH) : Option OR := match aEval T x with
  | some a => match aUn op a with
    | some v => some (.val v h)
    | none => none
  | none => none

def oConv (E : Env) (T : PT AV) (s d : TypeId) (x : Operand) (h : AH) : Option OR := match aEval T x with
  | some a => aConv E s d a h
  | none => none

def oMakeFunc (T : PT AV) (fn : Fn) (first captured : List Operand) (h : AH) : Option OR := match fn with
  | .func f => match aEvals T first with
    | some fs => match aEvals T captured with
      | some cs => some (.val (.fn f fs cs) h)
      | none => none
    | none => none
  | _ => none

def nMakeMap (E : Env) (T : PT AV) (t : TypeId) (r : Option Operand) : NewR := match r with
  | none => some (.mp [], fun id => .map id)
  | some x => match E.ti t with
    | some i => match aEval T x with
      | some (.int _ _) => match i.d with
        | .map _ _ => some (.mp [], fun id => .map id)
        | _ => none
      | _ => none
    | none => none

def nMakeSlice (E : Env) (T : PT AV) (t : TypeId) (l c : Operand) : NewR := match E.ti t with
  | some i => match aEval T l with
    | some (.int _ (.ofNat l)) => match aEval T c with
      | some (.int _ (.ofNat c)) => match i.d with
        | .slice e => match E.ti e with
          | some ei => match ei.zero with
            | some z => match Nat.ble (ei.bytes * c) 281474976710656 && Nat.ble c 4611686018427387904 && Nat.ble l c with
              | true => some (ownL (rep c z) e, fun id => .slc id 0 l c)
              | false => none
            | none => none
          | none => none
        | _ => none
      | _ => none
    | _ => none
  | none => none

def oNew (r : NewR) (h : AH) : Option OR := match r with
  | some (b, mk) => some (.val (mk h.n) (h.new b))
  | none => none

/-- are a block's elements of so many cells? -/
def strideOk (E : Env) (h : AH) (b size : Nat) : Bool := match h.h.get b with
  | some (.own _ _ t) => match E.ti t with
    | some i => Nat.beq i.size size
    | none => false
  | some (.ro _ es) => Nat.beq es size
  | _ => false

def oSlice (E : Env) (T : PT AV) (t : TypeId) (x : Operand) (lo hi : Option Operand) (h : AH) : Option OR := match E.ti t with
  | some i => match aEval T x with
    | some v => match i.d, v with
      | .string, .str l => match aBound T hi l.length l.length with
        | some e => match aBound T lo 0 e with
          | some s => some (.val (.str ((l.take e).drop s)) h)
          | none => none
        | none => none
      | .slice el, .nils => match E.ti el with
        | some _ => match aBound T hi 0 0 with
          | some e => match aBound T lo 0 e with
            | some _ => some (.val .nils h)
            | none => none
          | none => none
        | none => none
      | .slice el, .slc b o len cap => match E.ti el with
        | some ei => match aBound T hi len cap with
          | some e => match aBound T lo 0 e with
            | some s => match strideOk E h b ei.size with
              | true => some (.val (.slc b (o + s * ei.size) (e - s) (cap - s)) h)
              | false => none
            | none => none
          | none => none
        | none => none
      | .array n el, .ptr b o => match E.ti el with
        | some ei => match aBound T hi n n with
          | some e => match aBound T lo 0 e with
            | some s => some (.val (.slc b (o + s * ei.size) (e - s) (n - s)) h)
            | none => none
          | none => none
        | none => none
      | _, _ => none
    | none => none
  | none => none

def oFieldAddr (E : Env) (T : PT AV) (s : TypeId) (x : Operand) (f : Nat) (h : AH) : Option OR := match E.ti s with
  | some i => match aEval T x with
    | some (.ptr b o) => match i.d with
      | .struct fs => match nth fs.toList f with
        | some f => match E.ti f.type with
          | some fi => match fi.size with
            | 0 => none
            | _ + 1 => some (.val (.ptr b (o + f.offset)) h)
          | none => none
        | none => none
      | _ => none
    | _ => none
  | none => none

def oField (E : Env) (T : PT AV) (t : TypeId) (x : Operand) (f : Nat) (h : AH) : Option OR := match E.ti t with
  | some i => match aEval T x with
    | some (.agg cs) => match i.d with
      | .struct fs => match nth fs.toList f with
        | some f => match aPart E f.type cs f.offset with
          | some v => some (.val v h)
          | none => none
        | none => none
      | _ => none
    | _ => none
  | none => none

def oIndexAddr (E : Env) (T : PT AV) (t : TypeId) (x ix : Operand) (h : AH) : Option OR := match E.ti t with
  | some i => match aEval T x with
    | some v => match aEval T ix with
      | some (.int _ (.ofNat j)) => match i.d, v with
        | .array n e, .ptr b o => match Nat.blt j n with
          | true => match E.ti e with
            | some ei => some (.val (.ptr b (o + j * ei.size)) h)
            | none => none
          | false => none
        | .slice e, .slc b o n _ => match Nat.blt j n with
          | true => match E.ti e with
            | some ei => some (.val (.ptr b (o + j * ei.size)) h)
            | none => none
          | false => none
        | _, _ => none
      | _ => none
    | none => none
  | none => none

def oIndex (E : Env) (T : PT AV) (t : TypeId) (x ix : Operand) (h : AH) : Option OR := match E.ti t with
  | some i => match aEval T x with
    | some v => match aEval T ix with
      | some (.int _ (.ofNat j)) => match i.d, v with
        | .array n e, .agg cs => match Nat.blt j n with
          | true => match E.ti e with
            | some ei => match aPart E e cs (j * ei.size) with
              | some v => some (.val v h)
              | none => none
            | none => none
          | false => none
        | .string, .str l => match nth l j with
          | some b => some (.val (.int .u8 b.toNat) h)
          | none => none
        | _, _ => none
      | _ => none
    | none => none
  | none => none

def zeroV (i : TI) : Option AV := match i.zero with
  | some z => match i.zagg with
    | true => some (.agg z)
    | false => nth z 0
  | none => none

def okV (ok : Bool) (v : AV) (b : Bool) : AV := match ok with
  | true => .tup [v, .bool b]
  | false => v

def oLookup (E : Env) (T : PT AV) (t : TypeId) (x k : Operand) (ok : Bool) (h : AH) : Option OR := match E.ti t with
  | some i => match aEval T x with
    | some m => match aEval T k with
      | some k => match i.d with
        | .map kt el => match E.ti kt with
          | some ki => match keyOk ki.d k with
            | true => match mapEs h m with
              | some es => match findE E kt k es 0 with
                | some (some (_, v)) => some (.val (okV ok v true) h)
                | some none => match E.ti el with
                  | some ei => match zeroV ei with
                    | some z => some (.val (okV ok z false) h)
                    | none => none
                  | none => none
                | none => none
              | none => none
            | false => none
          | none => none
        | _ => none
      | none => none
    | none => none
  | none => none

def oUpdate (E : Env) (T : PT AV) (t : TypeId) (m k x : Operand) (h : AH) : Option OR := match E.ti t with
  | some i => match aEval T m with
    | some (.map r) => match aEval T k with
      | some k => match aEval T x with
        | some v => match i.d with
          | .map kt _ => match E.ti kt with
            | some ki => match keyOk ki.d k with
              | true => match h.h.get r with
                | some (.mp es) => match findE E kt k es 0 with
                  | some (some (j, _)) => some (.val AV.undef (h.put r (.mp (setE es j k v))))
                  | some none => some (.val AV.undef (h.put r (.mp (es ++ [(k, v)]))))
                  | none => none
                | _ => none
              | false => none
            | none => none
          | _ => none
        | none => none
      | none => none
    | _ => none
  | none => none

def oExtract (T : PT AV) (t : Operand) (ix : Nat) (h : AH) : Option OR := match aEval T t with
  | some (.tup l) => match nth l ix with
    | some v => some (.val v h)
    | none => none
  | _ => none

def oCall (E : Env) (T : PT AV) (c : Call) (h : AH) : Option OR := match aEvals T c.args.toList with
  | some args => match c.callee with
    | .builtin b => aBuiltin E b c.argTypes args h
    | .value f => match aEval T f with
      | some (.fn f first caps) => match E.link f with
        | some g => some (.enter g (first ++ (args ++ caps)))
        | none => match E.ext f with
          | some e => aExt e (first ++ (args ++ caps)) h
          | none => none
      | _ => none
    | _ => none
  | none => none

def aOp (E : Env) (T : PT AV) (op : Op) (h : AH) : Option OR := match op with
  | .move x => oMove T x h
  | .assign x => oMove T x h
  | .pick c a b => oPick T c a b h
  | .alloc t => oNew (nAlloc E t) h
  | .box t x => oNew (nBox E T t x) h
  | .build t parts => oBuild E T t parts.toList h
  | .buildSlice t len parts => oNew (nBuildSlice E T t len parts.toList) h
  | .load t x => oLoad E T t x h
  | .store t x y => oStore E T t x y h
  | .nilCheck x => oNilCheck T x h
  | .binOp op t x y _ => oBin E T op t x y h
  | .unOp op _ x => oUn T op x h
  | .convert s d x => oConv E T s d x h
  | .makeFunc fn first captured => oMakeFunc T fn first.toList captured.toList h
  | .makeMap t r => oNew (nMakeMap E T t r) h
  | .makeSlice t l c => oNew (nMakeSlice E T t l c) h
  | .slice t x lo hi mx => match mx with
    | none => oSlice E T t x lo hi h
    | some _ => none
  | .fieldAddr s x f => oFieldAddr E T s x f h
  | .field t x f => oField E T t x f h
  | .indexAddr t x ix => oIndexAddr E T t x ix h
  | .index t x ix => oIndex E T t x ix h
  | .lookup t x k ok => oLookup E T t x k ok h
  | .mapUpdate t m k x => oUpdate E T t m k x h
  | .insert t m k x => oUpdate E T t m k x h
  | .extract t ix => oExtract T t ix h
  | .call c => oCall E T c h
  | _ => none

/-! ### a region in the order of its text -/
abbrev CallF := Nat → List AV → AH → Option (AV × AH)

/-- is a guarded operation carried out? none: it isn't told -/
def aWanted (ops : List Oper) (T : PT AV) (o : Oper) : Option Bool := match o.guard with
  | none => some true
  | some (j, want) => match nth ops j with
    | some g => match g.dst with
      | some d => match T.get d with
        | some (.bool b) => match b, want with
          | true, true => some true
          | false, false => some true
          | _, _ => some false
        | some (.tup _) => some false
        | _ => none
      | none => none
    | none => none

def aDst (T : PT AV) (d : Option Tmp) (v : AV) : PT AV := match d with
  | some d => T.set d v
  | none => T

def aStep (E : Env) (call : CallF) (T : PT AV) (o : Oper) (h : AH) : Option (AV × AH) := match aOp E T o.op h with
  | some (.val v h) => some (v, h)
  | some (.enter f args) => call f args h
  | none => none

def aOps (E : Env) (call : CallF) (all : List Oper) : List Oper → PT AV → AH → Option (PT AV × AH)
  | [], T, h => some (T, h)
  | o :: ops, T, h => match aWanted all T o with
    | some true => match aStep E call T o h with
      | some (v, h) => aOps E call all ops (aDst T o.dst v) h
      | none => none
    | some false => aOps E call all ops (aDst T o.dst AV.undef) h
    | none => none

/-! ### a region whose order is drawn: one order is carried out, and it is held that any other gives the same -/
inductive Cls where
  | rd
  | new
  | act

def clsOf (E : Env) (op : Op) : Cls := match op with
  | .move _ => .rd
  | .pick .. => .rd
  | .build .. => .rd
  | .load .. => .rd
  | .nilCheck _ => .rd
  | .binOp .. => .rd
  | .unOp .. => .rd
  | .convert _ d _ => match E.ti d with
    | some i => match i.d with
      | .slice _ => .act
      | _ => .rd
    | none => .act
  | .makeFunc .. => .rd
  | .slice .. => .rd
  | .fieldAddr .. => .rd
  | .field .. => .rd
  | .indexAddr .. => .rd
  | .index .. => .rd
  | .lookup .. => .rd
  | .extract .. => .rd
  | .call c => match c.callee with
    | .builtin .len => .rd
    | .builtin .min => .rd
    | .builtin .max => .rd
    | _ => .act
  | .alloc _ => .new
  | .box .. => .new
  | .buildSlice .. => .new
  | .makeMap .. => .new
  | .makeSlice .. => .new
  | _ => .act

/-- does what it gives hang on its operands alone? -/
def bare (op : Op) : Bool := match op with
  | .load .. => false
  | .lookup .. => false
  | .convert .. => false
  | .slice .. => false
  | .call _ => false
  | _ => true

def aNew (E : Env) (T : PT AV) (op : Op) : NewR := match op with
  | .alloc t => nAlloc E t
  | .box t x => nBox E T t x
  | .buildSlice t len parts => nBuildSlice E T t len parts.toList
  | .makeMap t r => nMakeMap E T t r
  | .makeSlice t l c => nMakeSlice E T t l c
  | _ => none

def beq1 : AV → AV → Bool
  | .bool a, .bool b => match a, b with
    | true, true => true
    | false, false => true
    | _, _ => false
  | .int k a, .int k' b => match kEq k k' with
    | true => iEq a b
    | false => false
  | .str a, .str b => u8eq a b
  | .nilp, .nilp => true
  | .ptr b o, .ptr b' o' => match Nat.beq b b' with
    | true => Nat.beq o o'
    | false => false
  | .nils, .nils => true
  | .slc b o n c, .slc b' o' n' c' => match Nat.beq b b' with
    | true => match Nat.beq o o' with
      | true => match Nat.beq n n' with
        | true => Nat.beq c c'
        | false => false
      | false => false
    | false => false
  | .nilm, .nilm => true
  | .map r, .map r' => Nat.beq r r'
  | .nilf, .nilf => true
  | .nili, .nili => true
  | _, _ => false

def beqL : List AV → List AV → Bool
  | [], l => match l with
    | [] => true
    | _ :: _ => false
  | a :: x, l => match l with
    | [] => false
    | b :: y => match beq1 a b with
      | true => beqL x y
      | false => false

def beqV : AV → AV → Bool
  | .agg a, .agg b => beqL a b
  | a, b => beq1 a b

def beqP : PT AV → PT AV → Bool
  | .leaf, t => match t with
    | .leaf => true
    | .node .. => false
  | .node l v r, t => match t with
    | .leaf => false
    | .node l' v' r' => match v, v' with
      | none, none => match beqP l l' with
        | true => beqP r r'
        | false => false
      | some a, some b => match beq1 a b with
        | true => match beqP l l' with
          | true => beqP r r'
          | false => false
        | false => false
      | _, _ => false

def beqB : AB → AB → Bool
  | .own a n t, .own b m u => match Nat.beq n m with
    | true => match Nat.beq t u with
      | true => beqP a b
      | false => false
    | false => false
  | .mp a, .mp b => match a, b with
    | [], [] => true
    | _, _ => false
  | _, _ => false

structure PI where
  i : Nat
  o : Oper
  m : Nat
  c : Cls

def Cls.isAct : Cls → Bool
  | .act => true
  | _ => false

/-- the operations ahead of one, by its edges -/
def maskOf (acc : List Nat) : List Edge → Nat
  | [] => 0
  | e :: es => match Region.binds .any e with
    | true => Nat.lor (Nat.lor (Nat.pow 2 e.on) (match nth acc e.on with | some m => m | none => 0)) (maskOf acc es)
    | false => maskOf acc es

def items (E : Env) : List Oper → Nat → List Nat → List PI
  | [], _, _ => []
  | o :: ops, i, acc => ⟨i, o, maskOf acc o.after.toList, clsOf E o.op⟩ :: items E ops (Nat.succ i) (acc ++ [maskOf acc o.after.toList])

def free (done : Nat) (p : PI) : Bool := Nat.beq (Nat.land p.m done) p.m

/-- the first one that is free, and the rest -/
def pickBy (f : PI → Bool) : List PI → Option (PI × List PI)
  | [] => none
  | p :: ps => match f p with
    | true => some (p, ps)
    | false => match pickBy f ps with
      | some (q, r) => some (q, p :: r)
      | none => none

def planGo : Nat → Nat → List PI → Option (List PI)
  | 0, _, l => match l with
    | [] => some []
    | _ :: _ => none
  | n + 1, done, l => match pickBy (fun p => free done p && !p.c.isAct) l with
    | some (p, r) => match planGo n (Nat.lor done (Nat.pow 2 p.i)) r with
      | some q => some (p :: q)
      | none => none
    | none => match pickBy (free done) l with
      | some (p, r) => match planGo n (Nat.lor done (Nat.pow 2 p.i)) r with
        | some q => some (p :: q)
        | none => none
      | none => match l with
        | [] => some []
        | _ :: _ => none

def tmpsOf : List Operand → List Nat
  | [] => []
  | .tmp t :: l => t :: tmpsOf l
  | _ :: l => tmpsOf l

/-- the slots that one reads -/
def readsOf (ops : List Oper) (o : Oper) : List Nat := match o.guard with
  | none => tmpsOf o.op.operands.toList
  | some (j, _) => match nth ops j with
    | some g => match g.dst with
      | some d => d :: tmpsOf o.op.operands.toList
      | none => tmpsOf o.op.operands.toList
    | none => tmpsOf o.op.operands.toList

def memN (n : Nat) : List Nat → Bool
  | [] => false
  | m :: l => match Nat.beq n m with
    | true => true
    | false => memN n l

def bitOf (m i : Nat) : Bool := Nat.beq (Nat.mod (Nat.div m (Nat.pow 2 i)) 2) 1

/-- x ahead of y in the plan -/
def pairOk (ops : List Oper) (x y : PI) : Bool := match x.c.isAct with
  | true => match bitOf y.m x.i with
    | true => true
    | false => false
  | false => match x.o.dst with
    | none => false
    | some d => match (match y.o.dst with | some d' => Nat.beq d d' | none => false) with
      | true => false
      | false => match memN d (readsOf ops x.o) with
        | true => false
        | false => match (match memN d (readsOf ops y.o) with | true => bitOf y.m x.i | false => true) with
          | false => false
          | true => match y.o.dst with
            | none => true
            | some d' => match memN d' (readsOf ops x.o) with
              | true => match y.c.isAct with
                | true => bitOf y.m x.i
                | false => false
              | false => true

def guardOk (ops : List Oper) (p : PI) : Bool := match (match p.o.guard with
    | none => true
    | some (j, _) => bitOf p.m j) with
  | false => false
  | true => match p.c.isAct with
    | true => true
    | false => match p.o.dst with
      | none => false
      | some d => match memN d (readsOf ops p.o) with
        | true => false
        | false => true

def planOk (ops : List Oper) : List PI → Bool
  | [] => true
  | p :: ps => match guardOk ops p with
    | true => match allLe (pairOk ops p) ps with
      | true => planOk ops ps
      | false => false
    | false => false

def planFor (E : Env) (ops : List Oper) : Option (List PI) := match planGo ops.length 0 (items E ops 0 []) with
  | some l => match planOk ops l with
    | true => some l
    | false => none
  | none => none

def idOf : AV → Option Nat
  | .ptr b _ => some b
  | .slc b _ _ _ => some b
  | .map r => some r
  | _ => none

/-- does one that was carried out still give the same? -/
def again (E : Env) (all : List Oper) (T : PT AV) (h : AH) (p : PI) : Bool := match aWanted all T p.o with
  | some false => true
  | some true => match p.o.dst with
    | none => false
    | some d => match T.get d with
      | none => false
      | some v => match p.c with
        | .rd => match bare p.o.op with
          | true => true
          | false => match aOp E T p.o.op h with
            | some (.val w _) => beqV v w
            | _ => false
        | .new => match idOf v with
          | some id => match aNew E T p.o.op with
            | some (b, _) => match h.h.get id with
              | some b' => beqB b' b
              | none => false
            | none => false
          | none => false
        | .act => false
  | none => false

def agains (E : Env) (all : List Oper) (T : PT AV) (h : AH) (m : Nat) : List PI → Bool
  | [] => true
  | p :: ps => match bitOf m p.i with
    | true => agains E all T h m ps
    | false => match again E all T h p with
      | true => agains E all T h m ps
      | false => false

def dRun (E : Env) (call : CallF) (all : List Oper) : List PI → List PI → PT AV → AH → Option (PT AV × AH)
  | [], _, T, h => some (T, h)
  | p :: ps, done, T, h => match aWanted all T p.o with
    | some false => dRun E call all ps (p :: done) (aDst T p.o.dst AV.undef) h
    | some true => match p.c with
      | .act => match aStep E call T p.o h with
        | some (v, h) => match agains E all (aDst T p.o.dst v) h p.m done with
          | true => dRun E call all ps (p :: done) (aDst T p.o.dst v) h
          | false => none
        | none => none
      | _ => match aOp E T p.o.op h with
        | some (.val v h) => dRun E call all ps (p :: done) (aDst T p.o.dst v) h
        | _ => none
    | none => none

def aDraw (E : Env) (call : CallF) (ops : Array Oper) (T : PT AV) (h : AH) : Option (PT AV × AH) := match planFor E ops.toList with
  | some plan => dRun E call ops.toList plan [] T h
  | none => none

/-! ### code -/
inductive AX where
  | normal
  | exit (id : Nat)
  | ret

def aLoop (f : PT AV → AH → Option (AX × PT AV × AH)) : Nat → PT AV → AH → Option (AX × PT AV × AH)
  | 0, _, _ => none
  | n + 1, T, h => match f T h with
    | some (.normal, T, h) => aLoop f n T h
    | r => r

abbrev CodeF := PT AV → AH → Option (AX × PT AV × AH)

def cRegion (r : Option (PT AV × AH)) : Option (AX × PT AV × AH) := match r with
  | some (T, h) => some (.normal, T, h)
  | none => none
def cSeq (r : Option (AX × PT AV × AH)) (k : CodeF) : Option (AX × PT AV × AH) := match r with
  | some (.normal, T, h) => k T h
  | some (.exit i, T, h) => some (.exit i, T, h)
  | some (.ret, T, h) => some (.ret, T, h)
  | none => none
def cCond (c : Option AV) (a b : CodeF) (T : PT AV) (h : AH) : Option (AX × PT AV × AH) := match c with
  | some (.bool true) => a T h
  | some (.bool false) => b T h
  | _ => none
def cBlock (id : Nat) (r : Option (AX × PT AV × AH)) : Option (AX × PT AV × AH) := match r with
  | some (.normal, T, h) => some (.normal, T, h)
  | some (.exit i, T, h) => match Nat.beq i id with
    | true => some (.normal, T, h)
    | false => some (.exit i, T, h)
  | some (.ret, T, h) => some (.ret, T, h)
  | none => none

def aCode (E : Env) (call : CallF) (L : Nat) : Code → CodeF
  | .skip, T, h => some (.normal, T, h)
  | .label _, T, h => some (.normal, T, h)
  | .region _ ops dr, T, h => match dr with
    | true => cRegion (aDraw E call ops T h)
    | false => cRegion (aOps E call ops.toList ops.toList T h)
  | .seq a b, T, h => cSeq (aCode E call L a T h) (aCode E call L b)
  | .cond c a b, T, h => cCond (aEval T c) (aCode E call L a) (aCode E call L b) T h
  | .block id c, T, h => cBlock id (aCode E call L c T h)
  | .loop c, T, h => aLoop (aCode E call L c) L T h
  | .exit id, T, h => some (.exit id, T, h)
  | .ret, T, h => some (.ret, T, h)
  | _, _, _ => none

def aResults (E : Env) (T : PT AV) (h : AH) : List ResultVar → Option (List AV)
  | [] => some []
  | r :: rs => match (match r with
      | .tmp t => T.get t
      | .cell a t => match T.get a with
        | some (.ptr b o) => aLoad E t h b o
        | _ => none) with
    | some v => match aResults E T h rs with
      | some l => some (v :: l)
      | none => none
    | none => none

def aRes (l : List AV) : AV := match l with
  | [v] => v
  | l => .tup l

def aCall (E : Env) (L : Nat) : Nat → CallF
  | 0, _, _, _ => none
  | n + 1, f, args, h => match E.fn f with
    | none => none
    | some fi => match aCode E (aCall E L n) L fi.body (setN .leaf 0 args) h with
      | some (x, T, h) => match (match x with | .exit _ => none | _ => aResults E T h fi.results) with
        | some l => some (aRes l, h)
        | none => none
      | none => none

end Go.AE
