import Derived.Test.YtodgdijafcenbaaAE4
namespace Go.AE

/-! ### numbers -/
theorem kMod_eq (k : IntKind) : ((kMod k : Nat) : Int) = 2 ^ k.bits := by cases k <;> rfl
theorem kMod_nat (k : IntKind) : kMod k = 2 ^ k.bits := by cases k <;> rfl
theorem kW_eq (k : IntKind) : kW k = k.bits := by cases k <;> rfl
theorem kEq_eq {k k' : IntKind} (h : kEq k k' = true) : k = k' := by cases k <;> cases k' <;> first | rfl | (simp [kEq] at h)
theorem kEq_self (k : IntKind) : kEq k k = true := by cases k <;> rfl

theorem int_congr {k : IntKind} {a b : Int} (h : a = b) : AV.int k a = AV.int k b := by rw [h]

theorem wrap_i8 (n : Int) : IntKind.wrap .i8 n = if 128 ≤ n % 256 then n % 256 - 256 else n % 256 := by
  show (if (true && decide (n % (2 ^ 8 : Int) ≥ (2 ^ 7 : Int))) = true then n % (2 ^ 8 : Int) - 2 ^ 8 else n % (2 ^ 8 : Int)) = _
  simp
theorem mkInt_i8 (n : Int) : mkInt .i8 n = .int .i8 (IntKind.wrap .i8 n) := by
  rw [wrap_i8]
  cases n with
  | ofNat m =>
    simp only [mkInt, fnat_eq, kRead, kMod]
    have e : Nat.mod m 256 = m % 256 := rfl
    rw [e]
    cases hb : Nat.ble 128 (m % 256) with
    | true =>
      have hb' : 128 ≤ m % 256 := Nat.le_of_ble_eq_true hb
      rw [if_pos (by simp only [Int.ofNat_eq_natCast]; omega)]
      exact int_congr (b := Int.ofNat m % 256 - 256) (a := Int.negSucc (255 - m % 256)) (by simp only [Int.negSucc_eq, Int.ofNat_eq_natCast]; omega)
    | false =>
      have hb' : ¬ 128 ≤ m % 256 := fun q => by rw [Nat.ble_eq_true_of_le q] at hb; cases hb
      rw [if_neg (by simp only [Int.ofNat_eq_natCast]; omega)]
      simp
  | negSucc m =>
    simp only [mkInt, fnat_eq, kRead, kMod]
    have e : Nat.sub (Nat.sub 256 1) (Nat.mod m 256) = 255 - m % 256 := rfl
    rw [e]
    cases hb : Nat.ble 128 (255 - m % 256) with
    | true =>
      have hb' : 128 ≤ 255 - m % 256 := Nat.le_of_ble_eq_true hb
      rw [if_pos (by simp only [Int.negSucc_eq]; omega)]
      exact int_congr (b := Int.negSucc m % 256 - 256) (a := Int.negSucc (255 - (255 - m % 256))) (by simp only [Int.negSucc_eq]; omega)
    | false =>
      have hb' : ¬ 128 ≤ 255 - m % 256 := fun q => by rw [Nat.ble_eq_true_of_le q] at hb; cases hb
      rw [if_neg (by simp only [Int.negSucc_eq]; omega)]
      exact int_congr (by simp only [Int.negSucc_eq, Int.ofNat_eq_natCast]; omega)
theorem wrap_i16 (n : Int) : IntKind.wrap .i16 n = if 32768 ≤ n % 65536 then n % 65536 - 65536 else n % 65536 := by
  show (if (true && decide (n % (2 ^ 16 : Int) ≥ (2 ^ 15 : Int))) = true then n % (2 ^ 16 : Int) - 2 ^ 16 else n % (2 ^ 16 : Int)) = _
  simp
theorem mkInt_i16 (n : Int) : mkInt .i16 n = .int .i16 (IntKind.wrap .i16 n) := by
  rw [wrap_i16]
  cases n with
  | ofNat m =>
    simp only [mkInt, fnat_eq, kRead, kMod]
    have e : Nat.mod m 65536 = m % 65536 := rfl
    rw [e]
    cases hb : Nat.ble 32768 (m % 65536) with
    | true =>
      have hb' : 32768 ≤ m % 65536 := Nat.le_of_ble_eq_true hb
      rw [if_pos (by simp only [Int.ofNat_eq_natCast]; omega)]
      exact int_congr (b := Int.ofNat m % 65536 - 65536) (a := Int.negSucc (65535 - m % 65536)) (by simp only [Int.negSucc_eq, Int.ofNat_eq_natCast]; omega)
    | false =>
      have hb' : ¬ 32768 ≤ m % 65536 := fun q => by rw [Nat.ble_eq_true_of_le q] at hb; cases hb
      rw [if_neg (by simp only [Int.ofNat_eq_natCast]; omega)]
      simp
  | negSucc m =>
    simp only [mkInt, fnat_eq, kRead, kMod]
    have e : Nat.sub (Nat.sub 65536 1) (Nat.mod m 65536) = 65535 - m % 65536 := rfl
    rw [e]
    cases hb : Nat.ble 32768 (65535 - m % 65536) with
    | true =>
      have hb' : 32768 ≤ 65535 - m % 65536 := Nat.le_of_ble_eq_true hb
      rw [if_pos (by simp only [Int.negSucc_eq]; omega)]
      exact int_congr (b := Int.negSucc m % 65536 - 65536) (a := Int.negSucc (65535 - (65535 - m % 65536))) (by simp only [Int.negSucc_eq]; omega)
    | false =>
      have hb' : ¬ 32768 ≤ 65535 - m % 65536 := fun q => by rw [Nat.ble_eq_true_of_le q] at hb; cases hb
      rw [if_neg (by simp only [Int.negSucc_eq]; omega)]
      exact int_congr (by simp only [Int.negSucc_eq, Int.ofNat_eq_natCast]; omega)
theorem wrap_i32 (n : Int) : IntKind.wrap .i32 n = if 2147483648 ≤ n % 4294967296 then n % 4294967296 - 4294967296 else n % 4294967296 := by
  show (if (true && decide (n % (2 ^ 32 : Int) ≥ (2 ^ 31 : Int))) = true then n % (2 ^ 32 : Int) - 2 ^ 32 else n % (2 ^ 32 : Int)) = _
  simp
theorem mkInt_i32 (n : Int) : mkInt .i32 n = .int .i32 (IntKind.wrap .i32 n) := by
  rw [wrap_i32]
  cases n with
  | ofNat m =>
    simp only [mkInt, fnat_eq, kRead, kMod]
    have e : Nat.mod m 4294967296 = m % 4294967296 := rfl
    rw [e]
    cases hb : Nat.ble 2147483648 (m % 4294967296) with
    | true =>
      have hb' : 2147483648 ≤ m % 4294967296 := Nat.le_of_ble_eq_true hb
      rw [if_pos (by simp only [Int.ofNat_eq_natCast]; omega)]
      exact int_congr (b := Int.ofNat m % 4294967296 - 4294967296) (a := Int.negSucc (4294967295 - m % 4294967296)) (by simp only [Int.negSucc_eq, Int.ofNat_eq_natCast]; omega)
    | false =>
      have hb' : ¬ 2147483648 ≤ m % 4294967296 := fun q => by rw [Nat.ble_eq_true_of_le q] at hb; cases hb
      rw [if_neg (by simp only [Int.ofNat_eq_natCast]; omega)]
      simp
  | negSucc m =>
    simp only [mkInt, fnat_eq, kRead, kMod]
    have e : Nat.sub (Nat.sub 4294967296 1) (Nat.mod m 4294967296) = 4294967295 - m % 4294967296 := rfl
    rw [e]
    cases hb : Nat.ble 2147483648 (4294967295 - m % 4294967296) with
    | true =>
      have hb' : 2147483648 ≤ 4294967295 - m % 4294967296 := Nat.le_of_ble_eq_true hb
      rw [if_pos (by simp only [Int.negSucc_eq]; omega)]
      exact int_congr (b := Int.negSucc m % 4294967296 - 4294967296) (a := Int.negSucc (4294967295 - (4294967295 - m % 4294967296))) (by simp only [Int.negSucc_eq]; omega)
    | false =>
      have hb' : ¬ 2147483648 ≤ 4294967295 - m % 4294967296 := fun q => by rw [Nat.ble_eq_true_of_le q] at hb; cases hb
      rw [if_neg (by simp only [Int.negSucc_eq]; omega)]
      exact int_congr (by simp only [Int.negSucc_eq, Int.ofNat_eq_natCast]; omega)
theorem wrap_i64 (n : Int) : IntKind.wrap .i64 n = if 9223372036854775808 ≤ n % 18446744073709551616 then n % 18446744073709551616 - 18446744073709551616 else n % 18446744073709551616 := by
  show (if (true && decide (n % (2 ^ 64 : Int) ≥ (2 ^ 63 : Int))) = true then n % (2 ^ 64 : Int) - 2 ^ 64 else n % (2 ^ 64 : Int)) = _
  simp
theorem mkInt_i64 (n : Int) : mkInt .i64 n = .int .i64 (IntKind.wrap .i64 n) := by
  rw [wrap_i64]
  cases n with
  | ofNat m =>
    simp only [mkInt, fnat_eq, kRead, kMod]
    have e : Nat.mod m 18446744073709551616 = m % 18446744073709551616 := rfl
    rw [e]
    cases hb : Nat.ble 9223372036854775808 (m % 18446744073709551616) with
    | true =>
      have hb' : 9223372036854775808 ≤ m % 18446744073709551616 := Nat.le_of_ble_eq_true hb
      rw [if_pos (by simp only [Int.ofNat_eq_natCast]; omega)]
      exact int_congr (b := Int.ofNat m % 18446744073709551616 - 18446744073709551616) (a := Int.negSucc (18446744073709551615 - m % 18446744073709551616)) (by simp only [Int.negSucc_eq, Int.ofNat_eq_natCast]; omega)
    | false =>
      have hb' : ¬ 9223372036854775808 ≤ m % 18446744073709551616 := fun q => by rw [Nat.ble_eq_true_of_le q] at hb; cases hb
      rw [if_neg (by simp only [Int.ofNat_eq_natCast]; omega)]
      simp
  | negSucc m =>
    simp only [mkInt, fnat_eq, kRead, kMod]
    have e : Nat.sub (Nat.sub 18446744073709551616 1) (Nat.mod m 18446744073709551616) = 18446744073709551615 - m % 18446744073709551616 := rfl
    rw [e]
    cases hb : Nat.ble 9223372036854775808 (18446744073709551615 - m % 18446744073709551616) with
    | true =>
      have hb' : 9223372036854775808 ≤ 18446744073709551615 - m % 18446744073709551616 := Nat.le_of_ble_eq_true hb
      rw [if_pos (by simp only [Int.negSucc_eq]; omega)]
      exact int_congr (b := Int.negSucc m % 18446744073709551616 - 18446744073709551616) (a := Int.negSucc (18446744073709551615 - (18446744073709551615 - m % 18446744073709551616))) (by simp only [Int.negSucc_eq]; omega)
    | false =>
      have hb' : ¬ 9223372036854775808 ≤ 18446744073709551615 - m % 18446744073709551616 := fun q => by rw [Nat.ble_eq_true_of_le q] at hb; cases hb
      rw [if_neg (by simp only [Int.negSucc_eq]; omega)]
      exact int_congr (by simp only [Int.negSucc_eq, Int.ofNat_eq_natCast]; omega)
theorem wrap_u8 (n : Int) : IntKind.wrap .u8 n = n % 256 := by
  show (if (false && decide (n % (2 ^ 8 : Int) ≥ (2 ^ 7 : Int))) = true then n % (2 ^ 8 : Int) - 2 ^ 8 else n % (2 ^ 8 : Int)) = _
  simp
theorem mkInt_u8 (n : Int) : mkInt .u8 n = .int .u8 (IntKind.wrap .u8 n) := by
  rw [wrap_u8]
  cases n with
  | ofNat m =>
    simp only [mkInt, fnat_eq, kRead, kMod]
    have e : Nat.mod m 256 = m % 256 := rfl
    rw [e]; simp
  | negSucc m =>
    simp only [mkInt, fnat_eq, kRead, kMod]
    have e : Nat.sub (Nat.sub 256 1) (Nat.mod m 256) = 255 - m % 256 := rfl
    rw [e]
    exact int_congr (by simp only [Int.negSucc_eq, Int.ofNat_eq_natCast]; omega)
theorem wrap_u16 (n : Int) : IntKind.wrap .u16 n = n % 65536 := by
  show (if (false && decide (n % (2 ^ 16 : Int) ≥ (2 ^ 15 : Int))) = true then n % (2 ^ 16 : Int) - 2 ^ 16 else n % (2 ^ 16 : Int)) = _
  simp
theorem mkInt_u16 (n : Int) : mkInt .u16 n = .int .u16 (IntKind.wrap .u16 n) := by
  rw [wrap_u16]
  cases n with
  | ofNat m =>
    simp only [mkInt, fnat_eq, kRead, kMod]
    have e : Nat.mod m 65536 = m % 65536 := rfl
    rw [e]; simp
  | negSucc m =>
    simp only [mkInt, fnat_eq, kRead, kMod]
    have e : Nat.sub (Nat.sub 65536 1) (Nat.mod m 65536) = 65535 - m % 65536 := rfl
    rw [e]
    exact int_congr (by simp only [Int.negSucc_eq, Int.ofNat_eq_natCast]; omega)
theorem wrap_u32 (n : Int) : IntKind.wrap .u32 n = n % 4294967296 := by
  show (if (false && decide (n % (2 ^ 32 : Int) ≥ (2 ^ 31 : Int))) = true then n % (2 ^ 32 : Int) - 2 ^ 32 else n % (2 ^ 32 : Int)) = _
  simp
theorem mkInt_u32 (n : Int) : mkInt .u32 n = .int .u32 (IntKind.wrap .u32 n) := by
  rw [wrap_u32]
  cases n with
  | ofNat m =>
    simp only [mkInt, fnat_eq, kRead, kMod]
    have e : Nat.mod m 4294967296 = m % 4294967296 := rfl
    rw [e]; simp
  | negSucc m =>
    simp only [mkInt, fnat_eq, kRead, kMod]
    have e : Nat.sub (Nat.sub 4294967296 1) (Nat.mod m 4294967296) = 4294967295 - m % 4294967296 := rfl
    rw [e]
    exact int_congr (by simp only [Int.negSucc_eq, Int.ofNat_eq_natCast]; omega)
theorem wrap_u64 (n : Int) : IntKind.wrap .u64 n = n % 18446744073709551616 := by
  show (if (false && decide (n % (2 ^ 64 : Int) ≥ (2 ^ 63 : Int))) = true then n % (2 ^ 64 : Int) - 2 ^ 64 else n % (2 ^ 64 : Int)) = _
  simp
theorem mkInt_u64 (n : Int) : mkInt .u64 n = .int .u64 (IntKind.wrap .u64 n) := by
  rw [wrap_u64]
  cases n with
  | ofNat m =>
    simp only [mkInt, fnat_eq, kRead, kMod]
    have e : Nat.mod m 18446744073709551616 = m % 18446744073709551616 := rfl
    rw [e]; simp
  | negSucc m =>
    simp only [mkInt, fnat_eq, kRead, kMod]
    have e : Nat.sub (Nat.sub 18446744073709551616 1) (Nat.mod m 18446744073709551616) = 18446744073709551615 - m % 18446744073709551616 := rfl
    rw [e]
    exact int_congr (by simp only [Int.negSucc_eq, Int.ofNat_eq_natCast]; omega)
theorem mkInt_eq (k : IntKind) (n : Int) : mkInt k n = .int k (k.wrap n) := by
  cases k
  · exact mkInt_i8 n
  · exact mkInt_i16 n
  · exact mkInt_i32 n
  · exact mkInt_i64 n
  · exact mkInt_u8 n
  · exact mkInt_u16 n
  · exact mkInt_u32 n
  · exact mkInt_u64 n

theorem mkRaw_eq (k : IntKind) (n : Int) : mkRaw k n = .int k n := by simp [mkRaw]

theorem beq_dec (a b : Nat) : Nat.beq a b = decide (a = b) := by
  rw [Bool.eq_iff_iff, Nat.beq_eq]; simp
theorem blt_dec (a b : Nat) : Nat.blt a b = decide (a < b) := by
  rw [Bool.eq_iff_iff, Nat.blt_eq]; simp
theorem ble_dec (a b : Nat) : Nat.ble a b = decide (a ≤ b) := by
  rw [Bool.eq_iff_iff, Nat.ble_eq]; simp
theorem dec_congr {p q : Prop} [Decidable p] [Decidable q] (h : p ↔ q) : decide p = decide q := decide_eq_decide.2 h
theorem iEq_eq (a b : Int) : iEq a b = decide (a = b) := by
  cases a <;> cases b <;> simp only [iEq, beq_dec, Int.negSucc_eq, Int.ofNat_eq_natCast]
  · exact dec_congr (by omega)
  · exact (decide_eq_false (by omega)).symm
  · exact (decide_eq_false (by omega)).symm
  · exact dec_congr (by omega)
theorem iLt_eq (a b : Int) : iLt a b = decide (a < b) := by
  cases a <;> cases b <;> simp only [iLt, blt_dec, Int.negSucc_eq, Int.ofNat_eq_natCast]
  · exact dec_congr (by omega)
  · exact (decide_eq_false (by omega)).symm
  · exact (decide_eq_true (by omega)).symm
  · exact dec_congr (by omega)
theorem iAdd_eq (a b : Int) : iAdd a b = a + b := by cases a <;> cases b <;> rfl
theorem iSub_eq (a b : Int) : iSub a b = a - b := by
  cases a with
  | negSucc a => cases b <;> rfl
  | ofNat a => cases b with
    | negSucc b => rfl
    | ofNat b =>
      simp only [iSub]
      cases h : Nat.ble b a with
      | true =>
        have : b ≤ a := Nat.le_of_ble_eq_true h
        show Int.ofNat (a - b) = _
        simp only [Int.ofNat_eq_natCast]; omega
      | false =>
        have : ¬ b ≤ a := fun q => by rw [Nat.ble_eq_true_of_le q] at h; cases h
        show Int.negSucc (b - a - 1) = _
        simp only [Int.ofNat_eq_natCast, Int.negSucc_eq]; omega
theorem iMul_eq (a b : Int) : iMul a b = a * b := by cases a <;> cases b <;> rfl

theorem kBits_eq (k : IntKind) (n : Int) : kBits k n = (BitVec.ofInt k.bits n).toNat := by
  rw [BitVec.toNat_ofInt]
  have hpos : 0 < kMod k := by cases k <;> decide
  have h2 : ((2 ^ k.bits : Nat) : Int) = ((kMod k : Nat) : Int) := by rw [kMod_nat]
  rw [h2]
  cases n with
  | ofNat m =>
    show m % kMod k = _
    rw [Int.ofNat_eq_natCast, ← Int.natCast_emod, Int.toNat_natCast]
  | negSucc m =>
    show kMod k - 1 - m % kMod k = _
    have := Nat.mod_lt m hpos
    rw [Int.negSucc_emod _ (by omega)]
    omega

/-! ### bytes -/
theorem u8eq_eq (a : List UInt8) : ∀ b, u8eq a b = (a == b) := by
  induction a with
  | nil => intro b; cases b <;> rfl
  | cons x a ih =>
    intro b
    cases b with
    | nil => rfl
    | cons y b =>
      simp only [u8eq, ih]
      cases h : Nat.beq x.toNat y.toNat with
      | true =>
        have : x = y := UInt8.toNat.inj (Nat.eq_of_beq_eq_true h)
        simp [this]
      | false =>
        have : x ≠ y := fun e => by subst e; simp at h
        simp [this]
theorem u8lt_eq (a : List UInt8) : ∀ b, u8lt a b = Op.bytesLess a b := by
  induction a with
  | nil => intro b; cases b <;> rfl
  | cons x a ih =>
    intro b
    cases b with
    | nil => rfl
    | cons y b =>
      simp only [u8lt, Op.bytesLess, ih]
      have e1 : Nat.blt x.toNat y.toNat = decide (x < y) := by
        rw [Bool.eq_iff_iff]; simp [Nat.blt, UInt8.lt_iff_toNat_lt]; omega
      have e2 : Nat.beq x.toNat y.toNat = (x == y) := by
        rw [Bool.eq_iff_iff]; simp
        exact ⟨fun h => UInt8.toNat.inj h, fun h => by rw [h]⟩
      rw [e1, e2]
      cases decide (x < y) <;> cases (x == y) <;> rfl

theorem cmpB_eq (a : List UInt8) : ∀ b, cmpB a b = Lib.compareBytes a b := by
  induction a with
  | nil => intro b; cases b <;> rfl
  | cons x a ih =>
    intro b
    cases b with
    | nil => rfl
    | cons y b =>
      simp only [cmpB, ih]
      have e1 : ∀ x y : UInt8, Nat.blt x.toNat y.toNat = decide (x < y) := by
        intro x y; rw [Bool.eq_iff_iff]; simp [Nat.blt, UInt8.lt_iff_toNat_lt]; omega
      rw [e1, e1]
      simp only [Lib.compareBytes]
      by_cases h1 : x < y
      · simp [h1]
      · by_cases h2 : y < x <;> simp [h1, h2]

/-! ### operators -/
section
variable {P : Program} {E : Env} {R : RM} {W : World}

theorem back_eq (k : IntKind) (b : BitVec k.bits) : mkInt k (.ofNat b.toNat) = .int k (k.wrap b.toNat) := by rw [mkInt_eq]; rfl

theorem aInt2_ok {op : BinOp} {k : IntKind} {x y : Int} {v : AV} (h : aInt2 op k x y = some v) (t : TypeId) (hs : op ≠ .shl ∧ op ≠ .shr) : ∃ v', (binOp op t (.int k x) (.int k y)).run P W = .ok v' W ∧ VR R v v' := by
  cases op <;> simp only [aInt2, Option.some.injEq, reduceCtorEq] at h
  case add => subst h; exact ⟨_, by simp [binOp, Op.intArith]; rfl, by rw [mkInt_eq, iAdd_eq]; exact .int _ _⟩
  case sub => subst h; exact ⟨_, by simp [binOp, Op.intArith]; rfl, by rw [mkInt_eq, iSub_eq]; exact .int _ _⟩
  case mul => subst h; exact ⟨_, by simp [binOp, Op.intArith]; rfl, by rw [mkInt_eq, iMul_eq]; exact .int _ _⟩
  case quo =>
    have hy : y ≠ 0 := by
      intro e; subst e; unfold aQuo at h
      cases x <;> simp at h
    have hv : v = mkInt k (x.tdiv y) := by
      unfold aQuo at h
      split at h
      · split at h
        · simp at h
        · simp only [Option.some.injEq] at h; rw [← h]; rfl
      · simp only [Option.some.injEq] at h; rw [← h]
      · split at h
        · simp at h
        · simp only [Option.some.injEq] at h; rw [← h]
    subst hv
    exact ⟨_, by simp [binOp, Op.intDiv, hy]; rfl, by rw [mkInt_eq]; exact .int _ _⟩
  case rem =>
    have hy : y ≠ 0 := by
      intro e; subst e; unfold aRem at h
      cases x <;> simp at h
    have hv : v = mkRaw k (x.tmod y) := by
      unfold aRem at h
      split at h
      · split at h
        · simp at h
        · simp only [Option.some.injEq] at h; rw [← h]; rfl
      · simp only [Option.some.injEq] at h; rw [← h]
      · split at h
        · simp at h
        · simp only [Option.some.injEq] at h; rw [← h]
    subst hv
    exact ⟨_, by simp [binOp, Op.intDiv, hy]; rfl, by rw [mkRaw_eq]; exact .int _ _⟩
  case and =>
    subst h
    refine ⟨_, by simp [binOp, Op.intBits]; rfl, ?_⟩
    rw [kBits_eq, kBits_eq, show Nat.land (BitVec.ofInt k.bits x).toNat (BitVec.ofInt k.bits y).toNat = (BitVec.ofInt k.bits x &&& BitVec.ofInt k.bits y).toNat from (BitVec.toNat_and _ _).symm, back_eq]
    exact .int _ _
  case or =>
    subst h
    refine ⟨_, by simp [binOp, Op.intBits]; rfl, ?_⟩
    rw [kBits_eq, kBits_eq, show Nat.lor (BitVec.ofInt k.bits x).toNat (BitVec.ofInt k.bits y).toNat = (BitVec.ofInt k.bits x ||| BitVec.ofInt k.bits y).toNat from (BitVec.toNat_or _ _).symm, back_eq]
    exact .int _ _
  case xor =>
    subst h
    refine ⟨_, by simp [binOp, Op.intBits]; rfl, ?_⟩
    rw [kBits_eq, kBits_eq, show Nat.xor (BitVec.ofInt k.bits x).toNat (BitVec.ofInt k.bits y).toNat = (BitVec.ofInt k.bits x ^^^ BitVec.ofInt k.bits y).toNat from (BitVec.toNat_xor _ _).symm, back_eq]
    exact .int _ _
  case andNot =>
    subst h
    refine ⟨.int k (k.wrap ((BitVec.ofInt k.bits x &&& ~~~BitVec.ofInt k.bits y).toNat : Nat)), by simp only [binOp]; rw [if_neg (by simp)]; rfl, ?_⟩
    have e : Nat.land (kBits k x) (Nat.sub (Nat.sub (kMod k) 1) (kBits k y)) = (BitVec.ofInt k.bits x &&& ~~~BitVec.ofInt k.bits y).toNat := by
      rw [BitVec.toNat_and, BitVec.toNat_not, kBits_eq, kBits_eq, kMod_nat]
      rfl
    rw [e, back_eq]
    exact .int _ _
  case eql => subst h; exact ⟨_, by simp [binOp, Op.intCmp]; rfl, by rw [iEq_eq]; exact .bool _⟩
  case neq => subst h; exact ⟨.bool (!decide (x = y)), by simp [binOp, Op.intCmp, bne, BEq.beq], by rw [iEq_eq]; exact .bool _⟩
  case lss => subst h; exact ⟨_, by simp [binOp, Op.intCmp]; rfl, by rw [iLt_eq]; exact .bool _⟩
  case leq => subst h; exact ⟨.bool (decide (x ≤ y)), by simp [binOp, Op.intCmp], by rw [iLt_eq, show (!decide (y < x)) = decide (x ≤ y) from by rw [← decide_not]; exact dec_congr (by omega)]; exact .bool _⟩
  case gtr => subst h; exact ⟨.bool (decide (y < x)), by simp [binOp, Op.intCmp], by rw [iLt_eq]; exact .bool _⟩
  case geq => subst h; exact ⟨.bool (decide (y ≤ x)), by simp [binOp, Op.intCmp], by rw [iLt_eq, show (!decide (x < y)) = decide (y ≤ x) from by rw [← decide_not]; exact dec_congr (by omega)]; exact .bool _⟩

theorem shN_eq (k : IntKind) (n : Nat) : shN k n = min n k.bits := by
  unfold shN
  rw [kW_eq]
  cases hb : Nat.ble n k.bits with
  | true => have := Nat.le_of_ble_eq_true hb; simp; omega
  | false =>
    have : ¬ n ≤ k.bits := fun q => by rw [Nat.ble_eq_true_of_le q] at hb; cases hb
    simp; omega

theorem aShl_ok {k k' : IntKind} {x y : Int} {v : AV} (h : aShl k x y = some v) (t : TypeId) : ∃ v', (binOp .shl t (.int k x) (.int k' y)).run P W = .ok v' W ∧ VR R v v' := by
  cases y with
  | negSucc n => simp [aShl] at h
  | ofNat n =>
    have hmin := shN_eq k n
    have hv : v = mkInt k (x * 2 ^ (min n k.bits)) := by
      cases x with
      | ofNat m =>
        simp only [aShl, hmin, Option.some.injEq] at h
        rw [← h]
        congr 1
      | negSucc m =>
        simp only [aShl, hmin, Option.some.injEq] at h
        rw [← h]
        congr 1
    subst hv
    refine ⟨.int k (k.wrap (x * 2 ^ (min n k.bits))), ?_, by rw [mkInt_eq]; exact .int _ _⟩
    have hn : ¬ (Int.ofNat n < 0) := by simp
    simp only [binOp, Op.shift]
    rw [if_neg hn]
    rfl

theorem aShr_ok {k k' : IntKind} {x y : Int} {v : AV} (h : aShr k x y = some v) (t : TypeId) : ∃ v', (binOp .shr t (.int k x) (.int k' y)).run P W = .ok v' W ∧ VR R v v' := by
  cases y with
  | negSucc n => simp [aShr] at h
  | ofNat n =>
    have hmin := shN_eq k n
    have hv : v = mkRaw k (x.fdiv (2 ^ (min n k.bits))) := by
      have hp : ((2 ^ (min n k.bits) : Nat) : Int) = 2 ^ (min n k.bits) := by simp
      cases x with
      | ofNat m =>
        simp only [aShr, hmin, Option.some.injEq] at h
        rw [← h, ← hp]
        exact congrArg (mkRaw k) (Int.ofNat_fdiv m (2 ^ min n k.bits))
      | negSucc m =>
        simp only [aShr, hmin, Option.some.injEq] at h
        rw [← h, ← hp]
        rfl
    subst hv
    refine ⟨.int k (x.fdiv (2 ^ (min n k.bits))), ?_, by rw [mkRaw_eq]; exact .int _ _⟩
    have hn : ¬ (Int.ofNat n < 0) := by simp
    simp only [binOp, Op.shift]
    rw [if_neg hn]
    rfl

theorem aStr2_ok {op : BinOp} {x y : List UInt8} {v : AV} {s u : ByteArray} (hx : s.data.toList = x) (hy : u.data.toList = y) (h : aStr2 op x y = some v) (t : TypeId) :
    ∃ v', (binOp op t (.string s) (.string u)).run P W = .ok v' W ∧ VR R v v' := by
  have ex : s.toList = x := by rw [Lib.toList_data, hx]
  have ey : u.toList = y := by rw [Lib.toList_data, hy]
  cases op <;> simp only [aStr2, reduceCtorEq] at h
  case add =>
    split at h
    · rename_i hle
      simp only [Option.some.injEq] at h; subst h
      refine ⟨.string (s ++ u), ?_, .str _ _ ?_⟩
      · have hs : s.size = x.length := by rw [← hx]; simp
        have hu : u.size = y.length := by rw [← hy]; simp
        have : ¬ (((s.size + u.size : Nat) : Int) > IntKind.i64.max) := by
          have e : IntKind.i64.max = 9223372036854775807 := by decide
          rw [e, hs, hu]; unfold mostStr at hle; omega
        simp only [binOp, Op.stringOp]
        rw [if_neg this]; rfl
      · rw [ByteArray.data_append, Array.toList_append, hx, hy]
    · cases h
  all_goals (simp only [Option.some.injEq] at h; subst h; simp only [binOp, Op.stringOp, ex, ey, u8eq_eq, u8lt_eq]; exact ⟨_, rfl, .bool _⟩)

end
end Go.AE
