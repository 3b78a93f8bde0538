/-
  DET, part O: unsigned values as bit vectors; bytes.
-/
import Derived.Test.YtaennaoaoahjmaaDoorDetN
import Derived.IntWalk
set_option linter.unusedSimpArgs false
set_option linter.unusedVariables false
namespace Go.Det

def u32 (x : BitVec 32) : AV := .int .u32 (x.toNat : Int)
def u64 (x : BitVec 64) : AV := .int .u64 (x.toNat : Int)

theorem bv_ofInt (w n : Nat) : BitVec.ofInt w (n : Int) = BitVec.ofNat w n := by
  apply BitVec.eq_of_toNat_eq
  simp [BitVec.toNat_ofInt, BitVec.toNat_ofNat]
theorem bv_back {w : Nat} (x : BitVec w) : BitVec.ofInt w (x.toNat : Int) = x := by
  rw [bv_ofInt]; simp

theorem w_u32 (n : Int) : IntKind.wrap .u32 n = n % 4294967296 := IntKind.wrap_u32 n
theorem w_u64 (n : Int) : IntKind.wrap .u64 n = n % 18446744073709551616 := by
  simp [IntKind.wrap, IntKind.bits, IntKind.signed]

theorem i_tdiv (a b : Nat) : (a : Int).tdiv (b : Int) = ((a / b : Nat) : Int) := nodef rfl
theorem i_tmod (a b : Nat) : (a : Int).tmod (b : Int) = ((a % b : Nat) : Int) := nodef rfl
theorem i_mod (a b : Nat) : (a : Int) % (b : Int) = ((a % b : Nat) : Int) := nodef rfl

theorem and_toNat {w : Nat} (x y : BitVec w) : (x.toNat &&& y.toNat) % 2 ^ w = x.toNat &&& y.toNat := Nat.mod_eq_of_lt (Nat.lt_of_le_of_lt Nat.and_le_left x.isLt)


/-! ### u32 -/
theorem u32_wrapN (n : Nat) : IntKind.wrap .u32 (n : Int) = ((n % 4294967296 : Nat) : Int) := by
  rw [w_u32]; rfl
theorem u32_wrap (n : Int) : IntKind.wrap .u32 n = ((BitVec.ofInt 32 n).toNat : Int) := by
  rw [w_u32, BitVec.toNat_ofInt]
  omega
theorem u32_lt (x : BitVec 32) : x.toNat < 4294967296 := x.isLt
theorem u32_bits : IntKind.bits .u32 = 32 := rfl
@[simp] theorem u32_add (x y : BitVec 32) : abin .add (u32 x) (u32 y) = some (u32 (x + y)) := by
  simp only [u32, ab_add, Option.some.injEq, AV.int.injEq, true_and]
  rw [← Int.natCast_add, u32_wrapN, BitVec.toNat_add]
@[simp] theorem u32_sub (x y : BitVec 32) : abin .sub (u32 x) (u32 y) = some (u32 (x - y)) := by
  simp only [u32, ab_sub, Option.some.injEq, AV.int.injEq, true_and]
  rw [u32_wrap, BitVec.toNat_sub, BitVec.toNat_ofInt]
  have := u32_lt x; have := u32_lt y
  omega
@[simp] theorem u32_mul (x y : BitVec 32) : abin .mul (u32 x) (u32 y) = some (u32 (x * y)) := by
  simp only [u32, ab_mul, Option.some.injEq, AV.int.injEq, true_and]
  rw [← Int.natCast_mul, u32_wrapN, BitVec.toNat_mul]
theorem u32_quo (x y : BitVec 32) (h : y ≠ 0) : abin .quo (u32 x) (u32 y) = some (u32 (x / y)) := by
  have hy : ¬ ((y.toNat : Int) = 0) := fun h0 => h (BitVec.eq_of_toNat_eq (by simpa using h0))
  simp only [u32, ab_quo, hy, if_false, Option.some.injEq, AV.int.injEq, true_and]
  rw [i_tdiv, u32_wrapN, BitVec.toNat_udiv, Nat.mod_eq_of_lt (Nat.lt_of_le_of_lt (Nat.div_le_self _ _) (u32_lt x))]
theorem u32_rem (x y : BitVec 32) (h : y ≠ 0) : abin .rem (u32 x) (u32 y) = some (u32 (x % y)) := by
  have hy : ¬ ((y.toNat : Int) = 0) := fun h0 => h (BitVec.eq_of_toNat_eq (by simpa using h0))
  simp only [u32, ab_rem, hy, if_false, Option.some.injEq, AV.int.injEq, true_and]
  rw [i_tmod, BitVec.toNat_umod]
theorem u32_quo' (x y : BitVec 32) : abin .quo (u32 x) (u32 y) = if y = 0 then none else some (u32 (x / y)) := by
  split
  · rename_i h; subst h; rfl
  · rename_i h; exact u32_quo x y h
theorem u32_rem' (x y : BitVec 32) : abin .rem (u32 x) (u32 y) = if y = 0 then none else some (u32 (x % y)) := by
  split
  · rename_i h; subst h; rfl
  · rename_i h; exact u32_rem x y h
attribute [simp] u32_quo' u32_rem'
@[simp] theorem u32_and (x y : BitVec 32) : abin .and (u32 x) (u32 y) = some (u32 (x &&& y)) := by
  simp only [u32, abin, aint, if_true, u32_bits, Option.some.injEq, AV.int.injEq, true_and]
  rw [bv_back, bv_back, u32_wrapN, Nat.mod_eq_of_lt (u32_lt _)]; rfl
@[simp] theorem u32_or (x y : BitVec 32) : abin .or (u32 x) (u32 y) = some (u32 (x ||| y)) := by
  simp only [u32, abin, aint, if_true, u32_bits, Option.some.injEq, AV.int.injEq, true_and]
  rw [bv_back, bv_back, u32_wrapN, Nat.mod_eq_of_lt (u32_lt _)]; rfl
@[simp] theorem u32_xor (x y : BitVec 32) : abin .xor (u32 x) (u32 y) = some (u32 (x ^^^ y)) := by
  simp only [u32, abin, aint, if_true, u32_bits, Option.some.injEq, AV.int.injEq, true_and]
  rw [bv_back, bv_back, u32_wrapN, Nat.mod_eq_of_lt (u32_lt _)]; rfl
@[simp] theorem u32_andNot (x y : BitVec 32) : abin .andNot (u32 x) (u32 y) = some (u32 (x &&& ~~~y)) := by
  simp only [u32, abin, aint, if_true, u32_bits, Option.some.injEq, AV.int.injEq, true_and]
  rw [bv_back, bv_back, u32_wrapN, Nat.mod_eq_of_lt (u32_lt _)]; rfl
@[simp] theorem u32_lss (x y : BitVec 32) : abin .lss (u32 x) (u32 y) = some (.bool (decide (x < y))) := by
  simp only [u32, ab_lss, Int.ofNat_lt, BitVec.lt_def]
@[simp] theorem u32_leq (x y : BitVec 32) : abin .leq (u32 x) (u32 y) = some (.bool (decide (x ≤ y))) := by
  simp only [u32, ab_leq, Int.ofNat_le, BitVec.le_def]
@[simp] theorem u32_gtr (x y : BitVec 32) : abin .gtr (u32 x) (u32 y) = some (.bool (decide (y < x))) := by
  simp only [u32, ab_gtr, gt_iff_lt, Int.ofNat_lt, BitVec.lt_def]
@[simp] theorem u32_geq (x y : BitVec 32) : abin .geq (u32 x) (u32 y) = some (.bool (decide (y ≤ x))) := by
  simp only [u32, ab_geq, ge_iff_le, Int.ofNat_le, BitVec.le_def]
theorem u32_inj (x y : BitVec 32) : ((x.toNat : Int) = (y.toNat : Int)) = (x = y) := by
  rw [eq_iff_iff]
  constructor
  · intro h; exact BitVec.eq_of_toNat_eq (by omega)
  · intro h; rw [h]
@[simp] theorem u32_eql (x y : BitVec 32) : abin .eql (u32 x) (u32 y) = some (.bool (decide (x = y))) := by
  simp only [u32, ab_eql, u32_inj]
@[simp] theorem u32_neq (x y : BitVec 32) : abin .neq (u32 x) (u32 y) = some (.bool (decide (x ≠ y))) := by
  simp only [u32, ab_neq, ne_eq, u32_inj]
theorem u32_shlN (x : BitVec 32) (n : Nat) : IntKind.wrap .u32 ((x.toNat : Int) * 2 ^ min n 32) = ((x <<< n).toNat : Int) := by
  have e : ((x.toNat : Int) * 2 ^ min n 32) = ((x.toNat * 2 ^ min n 32 : Nat) : Int) := by simp
  rw [e, u32_wrapN, BitVec.toNat_shiftLeft, Nat.shiftLeft_eq]
  by_cases h : n ≤ 32
  · rw [Nat.min_eq_left h]
  · rw [Nat.min_eq_right (by omega)]
    congr 1
    have e1 : x.toNat * 2 ^ n % 2 ^ 32 = 0 := by
      have : 2 ^ n = 2 ^ 32 * 2 ^ (n - 32) := by rw [← Nat.pow_add]; congr 1; omega
      rw [this, Nat.mul_left_comm]; exact Nat.mul_mod_right _ _
    have e2 : x.toNat * 2 ^ 32 % 4294967296 = 0 := Nat.mul_mod_left _ _
    rw [e1, e2]
theorem u32_shrN (x : BitVec 32) (n : Nat) : (x.toNat : Int).fdiv (2 ^ min n 32) = ((x >>> n).toNat : Int) := by
  have e : ((2 : Int) ^ min n 32) = ((2 ^ min n 32 : Nat) : Int) := by simp
  rw [e, Int.fdiv_eq_ediv_of_nonneg _ (Int.natCast_nonneg _), BitVec.toNat_ushiftRight, Nat.shiftRight_eq_div_pow]
  have e3 : ∀ a b : Nat, (a : Int) / (b : Int) = ((a / b : Nat) : Int) := fun a b => rfl
  rw [e3]
  by_cases h : n ≤ 32
  · rw [Nat.min_eq_left h]
  · rw [Nat.min_eq_right (by omega)]
    congr 1
    have h1 : x.toNat / 2 ^ 32 = 0 := Nat.div_eq_of_lt x.isLt
    have h2 : x.toNat / 2 ^ n = 0 := Nat.div_eq_of_lt (Nat.lt_of_lt_of_le x.isLt (Nat.pow_le_pow_right (by omega) (by omega)))
    rw [h1, h2]
theorem u32_shl (x : BitVec 32) (k : IntKind) (n : Nat) : abin .shl (u32 x) (.int k n) = some (u32 (x <<< n)) := by
  simp only [u32, abin, ashift, u32_bits]
  rw [if_neg (by omega)]
  simp only [Int.toNat_natCast, u32_shlN]
theorem u32_shr (x : BitVec 32) (k : IntKind) (n : Nat) : abin .shr (u32 x) (.int k n) = some (u32 (x >>> n)) := by
  simp only [u32, abin, ashift, u32_bits]
  rw [if_neg (by omega)]
  simp only [Int.toNat_natCast, u32_shrN]
@[simp] theorem u32_shl_c (x : BitVec 32) (k : IntKind) (c : Int) (h : 0 ≤ c) : abin .shl (u32 x) (.int k c) = some (u32 (x <<< c.toNat)) := by
  obtain ⟨n, rfl⟩ := Int.eq_ofNat_of_zero_le h
  exact u32_shl x k n
@[simp] theorem u32_shr_c (x : BitVec 32) (k : IntKind) (c : Int) (h : 0 ≤ c) : abin .shr (u32 x) (.int k c) = some (u32 (x >>> c.toNat)) := by
  obtain ⟨n, rfl⟩ := Int.eq_ofNat_of_zero_le h
  exact u32_shr x k n
@[simp] theorem u32_shl_u64 (x : BitVec 32) (n : BitVec 64) : abin .shl (u32 x) (u64 n) = some (u32 (x <<< n.toNat)) := u32_shl x .u64 n.toNat
@[simp] theorem u32_shr_u64 (x : BitVec 32) (n : BitVec 64) : abin .shr (u32 x) (u64 n) = some (u32 (x >>> n.toNat)) := u32_shr x .u64 n.toNat
@[simp] theorem u32_not (x : BitVec 32) : aun .xor (u32 x) = some (u32 (~~~x)) := by
  have hm : BitVec.ofInt 32 (IntKind.max .u32) = BitVec.allOnes 32 := by decide
  simp only [u32, aun, u32_bits, Option.some.injEq, AV.int.injEq, true_and]
  simp only [IntKind.signed, Bool.false_eq_true, if_false]
  rw [hm, bv_back, u32_wrapN, Nat.mod_eq_of_lt (u32_lt _)]
  exact congrArg (fun z : BitVec 32 => (z.toNat : Int)) (BitVec.allOnes_xor (x := x))
@[simp] theorem u32_scalar (x : BitVec 32) : scalar (u32 x) = true := nodef rfl
@[simp] theorem u32_under (x : BitVec 32) (n : Nat) : AV.under n (u32 x) = true := nodef rfl
@[simp] theorem u32_ids (x : BitVec 32) (n : Nat) : AV.ids n (u32 x) = [] := nodef rfl
@[simp] theorem u32_cells (x : BitVec 32) : cellsOf (u32 x) = some [u32 x] := nodef rfl
@[simp] theorem u32_take (x : BitVec 32) (d b : Nat) : takeV d b (u32 x) = u32 x := nodef rfl
@[simp] theorem u32_okRes (x : BitVec 32) : okRes (u32 x) = true := nodef rfl
@[simp] theorem u32_acell (x y : BitVec 32) : acell (u32 x) (u32 y) = some (decide (x = y)) := by
  simp only [acell, u32, if_true, Option.some.injEq]
  rw [Bool.eq_iff_iff, beq_iff_eq, decide_eq_true_iff, u32_inj]
@[simp] theorem u32_eq (x y : BitVec 32) : (u32 x = u32 y) = (x = y) := by
  simp only [u32, AV.int.injEq, true_and, u32_inj]


/-! ### u64 -/
theorem u64_wrapN (n : Nat) : IntKind.wrap .u64 (n : Int) = ((n % 18446744073709551616 : Nat) : Int) := by
  rw [w_u64]; rfl
theorem u64_wrap (n : Int) : IntKind.wrap .u64 n = ((BitVec.ofInt 64 n).toNat : Int) := by
  rw [w_u64, BitVec.toNat_ofInt]
  omega
theorem u64_lt (x : BitVec 64) : x.toNat < 18446744073709551616 := x.isLt
theorem u64_bits : IntKind.bits .u64 = 64 := rfl
@[simp] theorem u64_add (x y : BitVec 64) : abin .add (u64 x) (u64 y) = some (u64 (x + y)) := by
  simp only [u64, ab_add, Option.some.injEq, AV.int.injEq, true_and]
  rw [← Int.natCast_add, u64_wrapN, BitVec.toNat_add]
@[simp] theorem u64_sub (x y : BitVec 64) : abin .sub (u64 x) (u64 y) = some (u64 (x - y)) := by
  simp only [u64, ab_sub, Option.some.injEq, AV.int.injEq, true_and]
  rw [u64_wrap, BitVec.toNat_sub, BitVec.toNat_ofInt]
  have := u64_lt x; have := u64_lt y
  omega
@[simp] theorem u64_mul (x y : BitVec 64) : abin .mul (u64 x) (u64 y) = some (u64 (x * y)) := by
  simp only [u64, ab_mul, Option.some.injEq, AV.int.injEq, true_and]
  rw [← Int.natCast_mul, u64_wrapN, BitVec.toNat_mul]
theorem u64_quo (x y : BitVec 64) (h : y ≠ 0) : abin .quo (u64 x) (u64 y) = some (u64 (x / y)) := by
  have hy : ¬ ((y.toNat : Int) = 0) := fun h0 => h (BitVec.eq_of_toNat_eq (by simpa using h0))
  simp only [u64, ab_quo, hy, if_false, Option.some.injEq, AV.int.injEq, true_and]
  rw [i_tdiv, u64_wrapN, BitVec.toNat_udiv, Nat.mod_eq_of_lt (Nat.lt_of_le_of_lt (Nat.div_le_self _ _) (u64_lt x))]
theorem u64_rem (x y : BitVec 64) (h : y ≠ 0) : abin .rem (u64 x) (u64 y) = some (u64 (x % y)) := by
  have hy : ¬ ((y.toNat : Int) = 0) := fun h0 => h (BitVec.eq_of_toNat_eq (by simpa using h0))
  simp only [u64, ab_rem, hy, if_false, Option.some.injEq, AV.int.injEq, true_and]
  rw [i_tmod, BitVec.toNat_umod]
theorem u64_quo' (x y : BitVec 64) : abin .quo (u64 x) (u64 y) = if y = 0 then none else some (u64 (x / y)) := by
  split
  · rename_i h; subst h; rfl
  · rename_i h; exact u64_quo x y h
theorem u64_rem' (x y : BitVec 64) : abin .rem (u64 x) (u64 y) = if y = 0 then none else some (u64 (x % y)) := by
  split
  · rename_i h; subst h; rfl
  · rename_i h; exact u64_rem x y h
attribute [simp] u64_quo' u64_rem'
@[simp] theorem u64_and (x y : BitVec 64) : abin .and (u64 x) (u64 y) = some (u64 (x &&& y)) := by
  simp only [u64, abin, aint, if_true, u64_bits, Option.some.injEq, AV.int.injEq, true_and]
  rw [bv_back, bv_back, u64_wrapN, Nat.mod_eq_of_lt (u64_lt _)]; rfl
@[simp] theorem u64_or (x y : BitVec 64) : abin .or (u64 x) (u64 y) = some (u64 (x ||| y)) := by
  simp only [u64, abin, aint, if_true, u64_bits, Option.some.injEq, AV.int.injEq, true_and]
  rw [bv_back, bv_back, u64_wrapN, Nat.mod_eq_of_lt (u64_lt _)]; rfl
@[simp] theorem u64_xor (x y : BitVec 64) : abin .xor (u64 x) (u64 y) = some (u64 (x ^^^ y)) := by
  simp only [u64, abin, aint, if_true, u64_bits, Option.some.injEq, AV.int.injEq, true_and]
  rw [bv_back, bv_back, u64_wrapN, Nat.mod_eq_of_lt (u64_lt _)]; rfl
@[simp] theorem u64_andNot (x y : BitVec 64) : abin .andNot (u64 x) (u64 y) = some (u64 (x &&& ~~~y)) := by
  simp only [u64, abin, aint, if_true, u64_bits, Option.some.injEq, AV.int.injEq, true_and]
  rw [bv_back, bv_back, u64_wrapN, Nat.mod_eq_of_lt (u64_lt _)]; rfl
@[simp] theorem u64_lss (x y : BitVec 64) : abin .lss (u64 x) (u64 y) = some (.bool (decide (x < y))) := by
  simp only [u64, ab_lss, Int.ofNat_lt, BitVec.lt_def]
@[simp] theorem u64_leq (x y : BitVec 64) : abin .leq (u64 x) (u64 y) = some (.bool (decide (x ≤ y))) := by
  simp only [u64, ab_leq, Int.ofNat_le, BitVec.le_def]
@[simp] theorem u64_gtr (x y : BitVec 64) : abin .gtr (u64 x) (u64 y) = some (.bool (decide (y < x))) := by
  simp only [u64, ab_gtr, gt_iff_lt, Int.ofNat_lt, BitVec.lt_def]
@[simp] theorem u64_geq (x y : BitVec 64) : abin .geq (u64 x) (u64 y) = some (.bool (decide (y ≤ x))) := by
  simp only [u64, ab_geq, ge_iff_le, Int.ofNat_le, BitVec.le_def]
theorem u64_inj (x y : BitVec 64) : ((x.toNat : Int) = (y.toNat : Int)) = (x = y) := by
  rw [eq_iff_iff]
  constructor
  · intro h; exact BitVec.eq_of_toNat_eq (by omega)
  · intro h; rw [h]
@[simp] theorem u64_eql (x y : BitVec 64) : abin .eql (u64 x) (u64 y) = some (.bool (decide (x = y))) := by
  simp only [u64, ab_eql, u64_inj]
@[simp] theorem u64_neq (x y : BitVec 64) : abin .neq (u64 x) (u64 y) = some (.bool (decide (x ≠ y))) := by
  simp only [u64, ab_neq, ne_eq, u64_inj]
theorem u64_shlN (x : BitVec 64) (n : Nat) : IntKind.wrap .u64 ((x.toNat : Int) * 2 ^ min n 64) = ((x <<< n).toNat : Int) := by
  have e : ((x.toNat : Int) * 2 ^ min n 64) = ((x.toNat * 2 ^ min n 64 : Nat) : Int) := by simp
  rw [e, u64_wrapN, BitVec.toNat_shiftLeft, Nat.shiftLeft_eq]
  by_cases h : n ≤ 64
  · rw [Nat.min_eq_left h]
  · rw [Nat.min_eq_right (by omega)]
    congr 1
    have e1 : x.toNat * 2 ^ n % 2 ^ 64 = 0 := by
      have : 2 ^ n = 2 ^ 64 * 2 ^ (n - 64) := by rw [← Nat.pow_add]; congr 1; omega
      rw [this, Nat.mul_left_comm]; exact Nat.mul_mod_right _ _
    have e2 : x.toNat * 2 ^ 64 % 18446744073709551616 = 0 := Nat.mul_mod_left _ _
    rw [e1, e2]
theorem u64_shrN (x : BitVec 64) (n : Nat) : (x.toNat : Int).fdiv (2 ^ min n 64) = ((x >>> n).toNat : Int) := by
  have e : ((2 : Int) ^ min n 64) = ((2 ^ min n 64 : Nat) : Int) := by simp
  rw [e, Int.fdiv_eq_ediv_of_nonneg _ (Int.natCast_nonneg _), BitVec.toNat_ushiftRight, Nat.shiftRight_eq_div_pow]
  have e3 : ∀ a b : Nat, (a : Int) / (b : Int) = ((a / b : Nat) : Int) := fun a b => rfl
  rw [e3]
  by_cases h : n ≤ 64
  · rw [Nat.min_eq_left h]
  · rw [Nat.min_eq_right (by omega)]
    congr 1
    have h1 : x.toNat / 2 ^ 64 = 0 := Nat.div_eq_of_lt x.isLt
    have h2 : x.toNat / 2 ^ n = 0 := Nat.div_eq_of_lt (Nat.lt_of_lt_of_le x.isLt (Nat.pow_le_pow_right (by omega) (by omega)))
    rw [h1, h2]
theorem u64_shl (x : BitVec 64) (k : IntKind) (n : Nat) : abin .shl (u64 x) (.int k n) = some (u64 (x <<< n)) := by
  simp only [u64, abin, ashift, u64_bits]
  rw [if_neg (by omega)]
  simp only [Int.toNat_natCast, u64_shlN]
theorem u64_shr (x : BitVec 64) (k : IntKind) (n : Nat) : abin .shr (u64 x) (.int k n) = some (u64 (x >>> n)) := by
  simp only [u64, abin, ashift, u64_bits]
  rw [if_neg (by omega)]
  simp only [Int.toNat_natCast, u64_shrN]
@[simp] theorem u64_shl_c (x : BitVec 64) (k : IntKind) (c : Int) (h : 0 ≤ c) : abin .shl (u64 x) (.int k c) = some (u64 (x <<< c.toNat)) := by
  obtain ⟨n, rfl⟩ := Int.eq_ofNat_of_zero_le h
  exact u64_shl x k n
@[simp] theorem u64_shr_c (x : BitVec 64) (k : IntKind) (c : Int) (h : 0 ≤ c) : abin .shr (u64 x) (.int k c) = some (u64 (x >>> c.toNat)) := by
  obtain ⟨n, rfl⟩ := Int.eq_ofNat_of_zero_le h
  exact u64_shr x k n
@[simp] theorem u64_shl_u64 (x : BitVec 64) (n : BitVec 64) : abin .shl (u64 x) (u64 n) = some (u64 (x <<< n.toNat)) := u64_shl x .u64 n.toNat
@[simp] theorem u64_shr_u64 (x : BitVec 64) (n : BitVec 64) : abin .shr (u64 x) (u64 n) = some (u64 (x >>> n.toNat)) := u64_shr x .u64 n.toNat
@[simp] theorem u64_not (x : BitVec 64) : aun .xor (u64 x) = some (u64 (~~~x)) := by
  have hm : BitVec.ofInt 64 (IntKind.max .u64) = BitVec.allOnes 64 := by decide
  simp only [u64, aun, u64_bits, Option.some.injEq, AV.int.injEq, true_and]
  simp only [IntKind.signed, Bool.false_eq_true, if_false]
  rw [hm, bv_back, u64_wrapN, Nat.mod_eq_of_lt (u64_lt _)]
  exact congrArg (fun z : BitVec 64 => (z.toNat : Int)) (BitVec.allOnes_xor (x := x))
@[simp] theorem u64_scalar (x : BitVec 64) : scalar (u64 x) = true := nodef rfl
@[simp] theorem u64_under (x : BitVec 64) (n : Nat) : AV.under n (u64 x) = true := nodef rfl
@[simp] theorem u64_ids (x : BitVec 64) (n : Nat) : AV.ids n (u64 x) = [] := nodef rfl
@[simp] theorem u64_cells (x : BitVec 64) : cellsOf (u64 x) = some [u64 x] := nodef rfl
@[simp] theorem u64_take (x : BitVec 64) (d b : Nat) : takeV d b (u64 x) = u64 x := nodef rfl
@[simp] theorem u64_okRes (x : BitVec 64) : okRes (u64 x) = true := nodef rfl
@[simp] theorem u64_acell (x y : BitVec 64) : acell (u64 x) (u64 y) = some (decide (x = y)) := by
  simp only [acell, u64, if_true, Option.some.injEq]
  rw [Bool.eq_iff_iff, beq_iff_eq, decide_eq_true_iff, u64_inj]
@[simp] theorem u64_eq (x y : BitVec 64) : (u64 x = u64 y) = (x = y) := by
  simp only [u64, AV.int.injEq, true_and, u64_inj]


end Go.Det
