/-
  DET, part P: bytes, conversions, lists of cells; the words by which the walk goes.
-/
import Derived.Test.YtaennaoaoahjmaaDoorDetO
set_option linter.unusedSimpArgs false
set_option linter.unusedVariables false
namespace Go.Det

/-! ### a list's member -/
def nth {α : Type} [Inhabited α] (l : List α) (i : Nat) : α := l.getD i default

theorem getElem?_nth {α : Type} [Inhabited α] (l : List α) (i : Nat) (h : i < l.length) : l[i]? = some (nth l i) := by
  simp [nth, List.getD, List.getElem?_eq_getElem h]
theorem nth_map {α β : Type} [Inhabited α] [Inhabited β] (f : α → β) (l : List α) (i : Nat) (h : i < l.length) : nth (l.map f) i = f (nth l i) := by
  simp [nth, List.getD, List.getElem?_eq_getElem h]
theorem nth_ext {α : Type} [Inhabited α] {l m : List α} (h : l.length = m.length) (hi : ∀ i, i < l.length → nth l i = nth m i) : l = m := by
  apply List.ext_getElem h
  intro i h1 h2
  have := hi i h1
  simpa [nth, List.getD, List.getElem?_eq_getElem h1, List.getElem?_eq_getElem h2] using this
theorem nth_range {α : Type} [Inhabited α] (f : Nat → α) (n i : Nat) (h : i < n) : nth ((List.range n).map f) i = f i := by
  simp [nth, List.getD, h]
theorem nth_append_left {α : Type} [Inhabited α] (l m : List α) (i : Nat) (h : i < l.length) : nth (l ++ m) i = nth l i := by
  simp [nth, List.getD, List.getElem?_append_left h]
theorem nth_append_right {α : Type} [Inhabited α] (l m : List α) (i : Nat) (h : l.length ≤ i) : nth (l ++ m) i = nth m (i - l.length) := by
  simp [nth, List.getD, List.getElem?_append_right h]
theorem nth_take {α : Type} [Inhabited α] (l : List α) (n i : Nat) (h : i < n) : nth (l.take n) i = nth l i := by
  simp [nth, List.getD, List.getElem?_take, h]
theorem nth_drop {α : Type} [Inhabited α] (l : List α) (n i : Nat) : nth (l.drop n) i = nth l (n + i) := by
  simp [nth, List.getD]
theorem nth_replicate {α : Type} [Inhabited α] (n i : Nat) (x : α) (h : i < n) : nth (List.replicate n x) i = x := by
  simp [nth, List.getD, List.getElem?_replicate, h]
theorem nth_set {α : Type} [Inhabited α] (l : List α) (i j : Nat) (x : α) (h : j < l.length) : nth (l.set i x) j = if i = j then x else nth l j := by
  simp only [nth, List.getD, List.getElem?_set]
  by_cases hi : i = j
  · subst hi; simp [h]
  · simp [hi]

/-! ### bytes -/
theorem b8_lt (x : UInt8) : x.toNat < 256 := x.toBitVec.isLt
theorem w_u8 (n : Int) : IntKind.wrap .u8 n = n % 256 := IntKind.wrap_u8 n
theorem u8_wrapN (n : Nat) : IntKind.wrap .u8 (n : Int) = ((n % 256 : Nat) : Int) := by rw [w_u8]; rfl
theorem u8_bits : IntKind.bits .u8 = 8 := rfl
theorem b8_toNat (x : UInt8) : x.toNat = x.toBitVec.toNat := nodef rfl
theorem b8_eq {x y : UInt8} (h : x.toNat = y.toNat) : x = y := UInt8.toNat_inj.1 h
theorem b8_inj (x y : UInt8) : ((x.toNat : Int) = (y.toNat : Int)) = (x = y) := by
  rw [eq_iff_iff]
  constructor
  · intro h; exact b8_eq (by omega)
  · intro h; rw [h]
@[simp] theorem byteAV_eq (x y : UInt8) : (byteAV x = byteAV y) = (x = y) := by
  simp only [byteAV, AV.int.injEq, true_and, b8_inj]

@[simp] theorem u8_add (x y : UInt8) : abin .add (byteAV x) (byteAV y) = some (byteAV (x + y)) := by
  simp only [byteAV, ab_add, Option.some.injEq, AV.int.injEq, true_and]
  rw [← Int.natCast_add, u8_wrapN, UInt8.toNat_add]
@[simp] theorem u8_sub (x y : UInt8) : abin .sub (byteAV x) (byteAV y) = some (byteAV (x - y)) := by
  simp only [byteAV, ab_sub, Option.some.injEq, AV.int.injEq, true_and]
  rw [w_u8, UInt8.toNat_sub]
  have := b8_lt x; have := b8_lt y
  omega
@[simp] theorem u8_mul (x y : UInt8) : abin .mul (byteAV x) (byteAV y) = some (byteAV (x * y)) := by
  simp only [byteAV, ab_mul, Option.some.injEq, AV.int.injEq, true_and]
  rw [← Int.natCast_mul, u8_wrapN, UInt8.toNat_mul]
theorem u8_quo (x y : UInt8) (h : y ≠ 0) : abin .quo (byteAV x) (byteAV y) = some (byteAV (x / y)) := by
  have hy : ¬ ((y.toNat : Int) = 0) := fun h0 => h (b8_eq (by simpa using h0))
  simp only [byteAV, ab_quo, hy, if_false, Option.some.injEq, AV.int.injEq, true_and]
  rw [i_tdiv, u8_wrapN, UInt8.toNat_div, Nat.mod_eq_of_lt (Nat.lt_of_le_of_lt (Nat.div_le_self _ _) (b8_lt x))]
theorem u8_rem (x y : UInt8) (h : y ≠ 0) : abin .rem (byteAV x) (byteAV y) = some (byteAV (x % y)) := by
  have hy : ¬ ((y.toNat : Int) = 0) := fun h0 => h (b8_eq (by simpa using h0))
  simp only [byteAV, ab_rem, hy, if_false, Option.some.injEq, AV.int.injEq, true_and]
  rw [i_tmod, UInt8.toNat_mod]
@[simp] theorem u8_quo' (x y : UInt8) : abin .quo (byteAV x) (byteAV y) = if y = 0 then none else some (byteAV (x / y)) := by
  split
  · rename_i h; subst h; rfl
  · rename_i h; exact u8_quo x y h
@[simp] theorem u8_rem' (x y : UInt8) : abin .rem (byteAV x) (byteAV y) = if y = 0 then none else some (byteAV (x % y)) := by
  split
  · rename_i h; subst h; rfl
  · rename_i h; exact u8_rem x y h
theorem u8_back (x : UInt8) : BitVec.ofInt 8 (x.toNat : Int) = x.toBitVec := by rw [b8_toNat, bv_back]
@[simp] theorem u8_and (x y : UInt8) : abin .and (byteAV x) (byteAV y) = some (byteAV (x &&& y)) := by
  simp only [byteAV, abin, aint, if_true, u8_bits, Option.some.injEq, AV.int.injEq, true_and]
  rw [u8_back, u8_back, u8_wrapN, Nat.mod_eq_of_lt (BitVec.isLt _)]; rfl
@[simp] theorem u8_or (x y : UInt8) : abin .or (byteAV x) (byteAV y) = some (byteAV (x ||| y)) := by
  simp only [byteAV, abin, aint, if_true, u8_bits, Option.some.injEq, AV.int.injEq, true_and]
  rw [u8_back, u8_back, u8_wrapN, Nat.mod_eq_of_lt (BitVec.isLt _)]; rfl
@[simp] theorem u8_xor (x y : UInt8) : abin .xor (byteAV x) (byteAV y) = some (byteAV (x ^^^ y)) := by
  simp only [byteAV, abin, aint, if_true, u8_bits, Option.some.injEq, AV.int.injEq, true_and]
  rw [u8_back, u8_back, u8_wrapN, Nat.mod_eq_of_lt (BitVec.isLt _)]; rfl
@[simp] theorem u8_lss (x y : UInt8) : abin .lss (byteAV x) (byteAV y) = some (.bool (decide (x < y))) := by
  simp only [byteAV, ab_lss, Int.ofNat_lt, UInt8.lt_iff_toNat_lt]
@[simp] theorem u8_leq (x y : UInt8) : abin .leq (byteAV x) (byteAV y) = some (.bool (decide (x ≤ y))) := by
  simp only [byteAV, ab_leq, Int.ofNat_le, UInt8.le_iff_toNat_le]
@[simp] theorem u8_gtr (x y : UInt8) : abin .gtr (byteAV x) (byteAV y) = some (.bool (decide (y < x))) := by
  simp only [byteAV, ab_gtr, gt_iff_lt, Int.ofNat_lt, UInt8.lt_iff_toNat_lt]
@[simp] theorem u8_geq (x y : UInt8) : abin .geq (byteAV x) (byteAV y) = some (.bool (decide (y ≤ x))) := by
  simp only [byteAV, ab_geq, ge_iff_le, Int.ofNat_le, UInt8.le_iff_toNat_le]
@[simp] theorem u8_eql (x y : UInt8) : abin .eql (byteAV x) (byteAV y) = some (.bool (decide (x = y))) := by
  simp only [byteAV, ab_eql, b8_inj]
@[simp] theorem u8_neq (x y : UInt8) : abin .neq (byteAV x) (byteAV y) = some (.bool (decide (x ≠ y))) := by
  simp only [byteAV, ab_neq, ne_eq, b8_inj]
@[simp] theorem u8_scalar (x : UInt8) : scalar (byteAV x) = true := nodef rfl
@[simp] theorem u8_under (x : UInt8) (n : Nat) : AV.under n (byteAV x) = true := nodef rfl
@[simp] theorem u8_ids (x : UInt8) (n : Nat) : AV.ids n (byteAV x) = [] := nodef rfl
@[simp] theorem u8_cells (x : UInt8) : cellsOf (byteAV x) = some [byteAV x] := nodef rfl
@[simp] theorem u8_take (x : UInt8) (d b : Nat) : takeV d b (byteAV x) = byteAV x := nodef rfl
@[simp] theorem u8_okRes (x : UInt8) : okRes (byteAV x) = true := nodef rfl
@[simp] theorem u8_acell (x y : UInt8) : acell (byteAV x) (byteAV y) = some (decide (x = y)) := by
  simp only [acell, byteAV, if_true, Option.some.injEq]
  rw [Bool.eq_iff_iff, beq_iff_eq, decide_eq_true_iff, b8_inj]

/-! ### conversions -/
def aconv (k : IntKind) (v : AV) : Option AV :=
  match v with
  | .int _ n => some (.int k (k.wrap n))
  | _ => none
theorem ev_conv (k : IntKind) (x : Opd) (e : Env) : evP (.conv k x) e = aconv k (opd e x) := nodef rfl

@[simp] theorem cv_i64_i64 (n : Int) : aconv .i64 (.int .i64 n) = some (.int .i64 (IntKind.wrap .i64 n)) := nodef rfl
@[simp] theorem cv_u8_i64 (x : UInt8) : aconv .i64 (byteAV x) = some (.int .i64 (x.toNat : Int)) := by
  simp only [aconv, byteAV, Option.some.injEq, AV.int.injEq, true_and]
  exact IntWalk.i64_in _ (by have := b8_lt x; omega)
@[simp] theorem cv_u32_i64 (x : BitVec 32) : aconv .i64 (u32 x) = some (.int .i64 (x.toNat : Int)) := by
  simp only [aconv, u32, Option.some.injEq, AV.int.injEq, true_and]
  exact IntWalk.i64_in _ (by have := u32_lt x; omega)
@[simp] theorem cv_u64_i64 (x : BitVec 64) : aconv .i64 (u64 x) = some (.int .i64 (IntKind.wrap .i64 (x.toNat : Int))) := nodef rfl
@[simp] theorem cv_u8_u32 (x : UInt8) : aconv .u32 (byteAV x) = some (u32 (x.toBitVec.setWidth 32)) := by
  simp only [aconv, byteAV, u32, Option.some.injEq, AV.int.injEq, true_and]
  rw [u32_wrapN, BitVec.toNat_setWidth]; rfl
@[simp] theorem cv_u8_u64 (x : UInt8) : aconv .u64 (byteAV x) = some (u64 (x.toBitVec.setWidth 64)) := by
  simp only [aconv, byteAV, u64, Option.some.injEq, AV.int.injEq, true_and]
  rw [u64_wrapN, BitVec.toNat_setWidth]; rfl
@[simp] theorem cv_u8_u8 (x : UInt8) : aconv .u8 (byteAV x) = some (byteAV x) := by
  simp only [aconv, byteAV, Option.some.injEq, AV.int.injEq, true_and]
  rw [u8_wrapN, Nat.mod_eq_of_lt (b8_lt x)]
@[simp] theorem cv_u32_u64 (x : BitVec 32) : aconv .u64 (u32 x) = some (u64 (x.setWidth 64)) := by
  simp only [aconv, u32, u64, Option.some.injEq, AV.int.injEq, true_and]
  rw [u64_wrapN, BitVec.toNat_setWidth]
@[simp] theorem cv_u32_u32 (x : BitVec 32) : aconv .u32 (u32 x) = some (u32 x) := by
  simp only [aconv, u32, Option.some.injEq, AV.int.injEq, true_and]
  rw [u32_wrapN, Nat.mod_eq_of_lt (u32_lt x)]
@[simp] theorem cv_u64_u64 (x : BitVec 64) : aconv .u64 (u64 x) = some (u64 x) := by
  simp only [aconv, u64, Option.some.injEq, AV.int.injEq, true_and]
  rw [u64_wrapN, Nat.mod_eq_of_lt (u64_lt x)]
@[simp] theorem cv_u64_u32 (x : BitVec 64) : aconv .u32 (u64 x) = some (u32 (x.setWidth 32)) := by
  simp only [aconv, u32, u64, Option.some.injEq, AV.int.injEq, true_and]
  rw [u32_wrapN, BitVec.toNat_setWidth]
def low8 {w : Nat} (x : BitVec w) : UInt8 := UInt8.ofBitVec (x.setWidth 8)
theorem low8_toNat {w : Nat} (x : BitVec w) : (low8 x).toNat = x.toNat % 256 := by
  show (x.setWidth 8).toNat = _
  rw [BitVec.toNat_setWidth]
@[simp] theorem cv_u32_u8 (x : BitVec 32) : aconv .u8 (u32 x) = some (byteAV (low8 x)) := by
  simp only [aconv, u32, byteAV, Option.some.injEq, AV.int.injEq, true_and]
  rw [u8_wrapN, low8_toNat]
@[simp] theorem cv_u64_u8 (x : BitVec 64) : aconv .u8 (u64 x) = some (byteAV (low8 x)) := by
  simp only [aconv, u64, byteAV, Option.some.injEq, AV.int.injEq, true_and]
  rw [u8_wrapN, low8_toNat]
@[simp] theorem cv_i64_u64 (n : Int) : aconv .u64 (.int .i64 n) = some (u64 (BitVec.ofInt 64 n)) := by
  simp only [aconv, u64, Option.some.injEq, AV.int.injEq, true_and, u64_wrap]
@[simp] theorem cv_i64_u32 (n : Int) : aconv .u32 (.int .i64 n) = some (u32 (BitVec.ofInt 32 n)) := by
  simp only [aconv, u32, Option.some.injEq, AV.int.injEq, true_and, u32_wrap]
@[simp] theorem cv_i64_u8 (n : Int) : aconv .u8 (.int .i64 n) = some (byteAV (low8 (BitVec.ofInt 8 n))) := by
  simp only [aconv, byteAV, Option.some.injEq, AV.int.injEq, true_and]
  rw [low8_toNat, w_u8, BitVec.toNat_ofInt]
  omega

/-! ### numbers as cells -/
def i64 (n : Int) : AV := .int .i64 n

/-! ### rows of cells -/
@[simp] theorem rep_one (n : Nat) (z : AV) : rep n [z] = List.replicate n z := nodef rfl
theorem unders_rep (n m : Nat) (z : AV) (h : AV.under m z = true) : AV.unders m (List.replicate n z) = true := by
  induction n with
  | zero => rfl
  | succ n ih => simp [List.replicate_succ, AV.unders, h, ih]
theorem unders_map {α : Type} (f : α → AV) (n : Nat) (h : ∀ x, AV.under n (f x) = true) (l : List α) : AV.unders n (l.map f) = true := by
  induction l with
  | nil => rfl
  | cons x l ih => simp [AV.unders, h, ih]
@[simp] theorem unders_bytes (n : Nat) (l : List UInt8) : AV.unders n (l.map byteAV) = true := unders_map _ _ (fun x => rfl) l
@[simp] theorem unders_u32 (n : Nat) (l : List (BitVec 32)) : AV.unders n (l.map u32) = true := unders_map _ _ (fun x => rfl) l
@[simp] theorem unders_u64 (n : Nat) (l : List (BitVec 64)) : AV.unders n (l.map u64) = true := unders_map _ _ (fun x => rfl) l
@[simp] theorem unders_i64 (n : Nat) (l : List Int) : AV.unders n (l.map i64) = true := unders_map _ _ (fun x => rfl) l
@[simp] theorem unders_str (n : Nat) (l : List (List UInt8)) : AV.unders n (l.map AV.str) = true := unders_map _ _ (fun x => rfl) l
@[simp] theorem unders_append (n : Nat) (l m : List AV) : AV.unders n (l ++ m) = (AV.unders n l && AV.unders n m) := by
  induction l with
  | nil => rfl
  | cons x l ih => simp [AV.unders, ih, Bool.and_assoc]

@[simp] theorem noNil_int (k : IntKind) (n : Int) : AV.noNil (.int k n) = true := nodef rfl
@[simp] theorem noNil_str (s : List UInt8) : AV.noNil (.str s) = true := nodef rfl
@[simp] theorem noNil_bool (b : Bool) : AV.noNil (.bool b) = true := nodef rfl
@[simp] theorem noNil_ptr0 : AV.noNil (.ptr none) = false := nodef rfl
@[simp] theorem noNil_ptr (a : AAddr) : AV.noNil (.ptr (some a)) = true := nodef rfl
@[simp] theorem noNil_slice0 (n e : Nat) : AV.noNil (.slice none n e) = false := nodef rfl
@[simp] theorem noNil_slice (a : AAddr) (n e : Nat) : AV.noNil (.slice (some a) n e) = true := nodef rfl
@[simp] theorem noNil_room (e : Nat) : AV.noNil (.slice0 e) = false := nodef rfl
@[simp] theorem noNil_map0 : AV.noNil (.map none) = false := nodef rfl
@[simp] theorem noNil_map (a : AAddr) : AV.noNil (.map (some a)) = true := nodef rfl
@[simp] theorem noNil_nilFunc : AV.noNil .nilFunc = false := nodef rfl
@[simp] theorem noNil_func (f : Nat) (a b : List AV) : AV.noNil (.func f a b) = true := nodef rfl
@[simp] theorem noNil_u8 (x : UInt8) : AV.noNil (byteAV x) = true := nodef rfl
@[simp] theorem noNil_u32 (x : BitVec 32) : AV.noNil (u32 x) = true := nodef rfl
@[simp] theorem noNil_u64 (x : BitVec 64) : AV.noNil (u64 x) = true := nodef rfl
@[simp] theorem noNil_i64 (x : Int) : AV.noNil (i64 x) = true := nodef rfl
theorem noNils_rep (n : Nat) (z : AV) (h : AV.noNil z = true) : AV.noNils (List.replicate n z) = true := by
  induction n with
  | zero => rfl
  | succ n ih => simp [List.replicate_succ, AV.noNils, h, ih]
theorem noNils_map {α : Type} (f : α → AV) (h : ∀ x, AV.noNil (f x) = true) (l : List α) : AV.noNils (l.map f) = true := by
  induction l with
  | nil => rfl
  | cons x l ih => simp [AV.noNils, h, ih]
@[simp] theorem noNils_bytes (l : List UInt8) : AV.noNils (l.map byteAV) = true := noNils_map _ (fun x => rfl) l
@[simp] theorem noNils_u32 (l : List (BitVec 32)) : AV.noNils (l.map u32) = true := noNils_map _ (fun x => rfl) l
@[simp] theorem noNils_u64 (l : List (BitVec 64)) : AV.noNils (l.map u64) = true := noNils_map _ (fun x => rfl) l
@[simp] theorem noNils_i64 (l : List Int) : AV.noNils (l.map i64) = true := noNils_map _ (fun x => rfl) l
@[simp] theorem noNils_str (l : List (List UInt8)) : AV.noNils (l.map AV.str) = true := noNils_map _ (fun x => rfl) l
@[simp] theorem noNils_append (l m : List AV) : AV.noNils (l ++ m) = (AV.noNils l && AV.noNils m) := by
  induction l with
  | nil => rfl
  | cons x l ih => simp [AV.noNils, ih, Bool.and_assoc]
@[simp] theorem avK_u8 (x : UInt8) : avK (byteAV x) = 0 := nodef rfl
@[simp] theorem avK_u32 (x : BitVec 32) : avK (u32 x) = 0 := nodef rfl
@[simp] theorem avK_u64 (x : BitVec 64) : avK (u64 x) = 0 := nodef rfl
@[simp] theorem avK_int (k : IntKind) (x : Int) : avK (.int k x) = 0 := nodef rfl
@[simp] theorem avK_str (x : List UInt8) : avK (.str x) = 1 := nodef rfl
@[simp] theorem avK_bool (x : Bool) : avK (.bool x) = 2 := nodef rfl
@[simp] theorem acells_nil : acells [] [] = some true := nodef rfl
@[simp] theorem acells_one (x y : AV) (l m : List AV) : acells (x :: l) (y :: m) = match acell x y, acells l m with | some a, some b => some (a && b) | _, _ => none := nodef rfl
@[simp] theorem acell_str (x y : List UInt8) : acell (.str x) (.str y) = some (x == y) := nodef rfl
@[simp] theorem acell_i64 (x y : Int) : acell (.int .i64 x) (.int .i64 y) = some (x == y) := by simp [acell]

theorem ids_map {α : Type} (f : α → AV) (n : Nat) (h : ∀ x, AV.ids n (f x) = []) (l : List α) : AV.idss n (l.map f) = [] := by
  induction l with
  | nil => rfl
  | cons x l ih => simp [AV.idss, h, ih]
@[simp] theorem idss_bytes (n : Nat) (l : List UInt8) : AV.idss n (l.map byteAV) = [] := ids_map _ _ (fun x => rfl) l
@[simp] theorem idss_u32 (n : Nat) (l : List (BitVec 32)) : AV.idss n (l.map u32) = [] := ids_map _ _ (fun x => rfl) l
@[simp] theorem idss_u64 (n : Nat) (l : List (BitVec 64)) : AV.idss n (l.map u64) = [] := ids_map _ _ (fun x => rfl) l
@[simp] theorem idss_i64 (n : Nat) (l : List Int) : AV.idss n (l.map i64) = [] := ids_map _ _ (fun x => rfl) l
@[simp] theorem idss_str (n : Nat) (l : List (List UInt8)) : AV.idss n (l.map AV.str) = [] := ids_map _ _ (fun x => rfl) l

theorem byteOf_byteAV (b : UInt8) : byteOf (byteAV b) = some b := by
  simp only [byteOf, byteAV, Int.toNat_natCast, Option.some.injEq]
  exact UInt8.ofNat_toNat
@[simp] theorem bytesOf_map (l : List UInt8) : bytesOf (l.map byteAV) = some l := by
  induction l with
  | nil => rfl
  | cons b l ih => simp only [List.map_cons, bytesOf, byteOf_byteAV, ih]

theorem bytes_take (l : List UInt8) (n : Nat) (h : l.length ≤ n) : bytesOf (List.take n (l.map byteAV)) = some l := by
  rw [List.take_of_length_le (by simpa using h), bytesOf_map]
attribute [simp] bytes_take

theorem acells_map {α : Type} [DecidableEq α] (f : α → AV) (hf : ∀ x y, acell (f x) (f y) = some (decide (x = y))) : ∀ (l m : List α), l.length = m.length → acells (l.map f) (m.map f) = some (decide (l = m))
  | [], [], _ => rfl
  | x :: l, y :: m, h => by
    simp only [List.map_cons, acells, hf, acells_map f hf l m (by simpa using h)]
    by_cases h1 : x = y <;> by_cases h2 : l = m <;> simp [h1, h2]

/-! ### a text's bytes -/
theorem ev_idxStr (x i : Opd) (e : Env) (s : List UInt8) (k : IntKind) (n : Nat) (hx : opd e x = .str s) (hi : opd e i = .int k n) (h : n < s.length) : evP (.idxStr x i) e = some (byteAV (nth s n)) := by
  simp only [evP, hx, hi]
  rw [if_pos (by omega)]
  simp only [Int.toNat_natCast, getElem?_nth s n h]

def aidxStr (v i : AV) : Option AV :=
  match v, i with
  | .str s, .int _ i => if 0 ≤ i then match s[i.toNat]? with
    | some b => some (byteAV b)
    | none => none
    else none
  | _, _ => none
theorem ev_idxStr' (x i : Opd) (e : Env) : evP (.idxStr x i) e = aidxStr (opd e x) (opd e i) := nodef rfl
theorem aidxStr_nat (s : List UInt8) (k : IntKind) (n : Int) (h0 : 0 ≤ n) (h : n < s.length) : aidxStr (.str s) (.int k n) = some (byteAV (nth s n.toNat)) := by
  simp only [aidxStr]
  rw [if_pos h0]
  simp only [getElem?_nth s n.toNat (by omega)]

def amin (mx : Bool) (x y : AV) : Option AV := amm mx (some x) y
theorem ev_minmax (mx : Bool) (x y : Opd) (e : Env) : evP (.minmax mx x y) e = amin mx (opd e x) (opd e y) := nodef rfl
theorem amin_nat (k : IntKind) (a b : Nat) : amin false (.int k a) (.int k b) = some (.int k ((min a b : Nat) : Int)) := by
  simp only [amin, amm, if_true, Bool.false_eq_true, if_false, Option.some.injEq, AV.int.injEq, true_and]
  split <;> omega
theorem amin_natc (k : IntKind) (a : Nat) (b : Int) (h : 0 ≤ b) : amin false (.int k a) (.int k b) = some (.int k ((min a b.toNat : Nat) : Int)) := by
  simp only [amin, amm, if_true, Bool.false_eq_true, if_false, Option.some.injEq, AV.int.injEq, true_and]
  split <;> omega
theorem amin_natc' (k : IntKind) (a : Int) (b : Nat) (h : 0 ≤ a) : amin false (.int k a) (.int k b) = some (.int k ((min a.toNat b : Nat) : Int)) := by
  simp only [amin, amm, if_true, Bool.false_eq_true, if_false, Option.some.injEq, AV.int.injEq, true_and]
  split <;> omega

theorem amin_gen (k : IntKind) (a b : Int) : amin false (.int k a) (.int k b) = some (.int k (min a b)) := by
  simp only [amin, amm, if_true, Bool.false_eq_true, if_false, Option.some.injEq, AV.int.injEq, true_and]
  split <;> omega
theorem amax_gen (k : IntKind) (a b : Int) : amin true (.int k a) (.int k b) = some (.int k (max a b)) := by
  simp only [amin, amm, if_true, Option.some.injEq, AV.int.injEq, true_and]
  split <;> omega
attribute [simp] amin_natc amin_natc'
attribute [simp low] amin_gen amax_gen

theorem tdiv_nat (a : Nat) (b : Int) (h : 0 < b) : (a : Int).tdiv b = ((a / b.toNat : Nat) : Int) := by
  obtain ⟨n, rfl⟩ := Int.eq_ofNat_of_zero_le (Int.le_of_lt h)
  rfl
theorem tmod_nat (a : Nat) (b : Int) (h : 0 < b) : (a : Int).tmod b = ((a % b.toNat : Nat) : Int) := by
  obtain ⟨n, rfl⟩ := Int.eq_ofNat_of_zero_le (Int.le_of_lt h)
  rfl
attribute [simp] tdiv_nat tmod_nat

end Go.Det
