/-
  LIB, poly: the tag as a number.
-/
import Derived.Test.YtpaagjjgmlmngaaLibPC
set_option maxRecDepth 100000
set_option maxHeartbeats 4000000
set_option linter.unusedSimpArgs false
set_option linter.unusedVariables false
namespace Go.Det.P
open Go.Det

/-! ### bytes, the lowest first -/
def le : List UInt8 → Nat
  | [] => 0
  | b :: l => b.toNat + 256 * le l
theorem le_lt : ∀ l : List UInt8, le l < 256 ^ l.length
  | [] => by simp [le]
  | b :: l => by
    have h := le_lt l
    have hb := b.toNat_lt
    rw [le, List.length_cons, Nat.pow_succ]
    omega
theorem le_app (a b : List UInt8) : le (a ++ b) = le a + 256 ^ a.length * le b := by
  induction a with
  | nil => simp [le]
  | cons x a ih => rw [List.cons_append, le, le, ih, List.length_cons, Nat.pow_succ]; grind
theorem le_rep (n : Nat) : le (List.replicate n 0) = 0 := by
  induction n with
  | zero => rfl
  | succ n ih => rw [List.replicate_succ, le, ih]; rfl
theorem le_nth : ∀ (l : List UInt8) (i : Nat), (nth l i).toNat = le l / 256 ^ i % 256
  | [], i => by simp [nth, le]; rfl
  | b :: l, 0 => by
    have hb := b.toNat_lt
    show b.toNat = (b.toNat + 256 * le l) / 1 % 256
    omega
  | b :: l, i + 1 => by
    have h := le_nth l i
    show (nth l i).toNat = _
    have hb := b.toNat_lt
    rw [h, le, Nat.pow_succ', ← Nat.div_div_eq_div_mul, show (b.toNat + 256 * le l) / 256 = le l by omega]
theorem le_inj (a b : List UInt8) (hl : a.length = b.length) (h : le a = le b) : a = b :=
  nth_ext hl fun i hi => UInt8.toNat_inj.1 (by rw [le_nth, le_nth, h])

theorem dig_add (x y X : Nat) (hX : 0 < X) : ((x % X + y % X) / X + (x / X % 256 + y / X % 256)) % 256 = (x + y) / X % 256 ∧
    ((x % X + y % X) / X + (x / X % 256 + y / X % 256)) / 256 = (x % (X * 256) + y % (X * 256)) / (X * 256) := by
  have hx := Nat.div_add_mod x X
  have hy := Nat.div_add_mod y X
  have mx : x % (X * 256) = X * (x / X % 256) + x % X := by rw [Nat.mod_mul, Nat.add_comm]
  have my : y % (X * 256) = X * (y / X % 256) + y % X := by rw [Nat.mod_mul, Nat.add_comm]
  have e1 : (x + y) / X = x / X + y / X + (x % X + y % X) / X := by
    conv => lhs; rw [← hx, ← hy]
    rw [show X * (x / X) + x % X + (X * (y / X) + y % X) = (x % X + y % X) + X * (x / X + y / X) by grind, Nat.add_mul_div_left _ _ hX]
    omega
  have e2 : (x % (X * 256) + y % (X * 256)) / X = x / X % 256 + y / X % 256 + (x % X + y % X) / X := by
    rw [mx, my, show X * (x / X % 256) + x % X + (X * (y / X % 256) + y % X) = (x % X + y % X) + X * (x / X % 256 + y / X % 256) by grind, Nat.add_mul_div_left _ _ hX]
    omega
  refine ⟨?_, ?_⟩
  · rw [e1]; omega
  · rw [← Nat.div_div_eq_div_mul, e2]
    congr 1
    omega

/-! ### words of bytes -/
theorem wat4_le (s : List UInt8) (h : s.length = 16) : (W.wat false s 0).toNat + 2 ^ 32 * (W.wat false s 1).toNat + 2 ^ 64 * (W.wat false s 2).toNat + 2 ^ 96 * (W.wat false s 3).toNat = le s := by
  match s, h with
  | [b0, b1, b2, b3, b4, b5, b6, b7, b8, b9, b10, b11, b12, b13, b14, b15], _ =>
    simp only [W.wat, Bool.false_eq_true, if_false, W.wd_nat, le, nth, List.getD, List.getElem?_cons_zero, List.getElem?_cons_succ, Option.getD_some, Nat.reduceMul, Nat.reduceAdd]
    omega
theorem le_by4 (x : BitVec 32) (l : List UInt8) : le (W.by4 false x ++ l) = x.toNat + 2 ^ 32 * le l := by
  have hx := x.isLt
  have e : W.by4 false x = [low8 x, low8 (x >>> 8), low8 (x >>> 16), low8 (x >>> 24)] := rfl
  rw [e]
  simp only [List.cons_append, List.nil_append, le]
  rw [W.low_w8 x 8, W.low_w8 x 16, W.low_w8 x 24, show low8 x = low8 (x >>> 0) by simp, W.low_w8 x 0]
  omega
theorem le_tx4 (w0 w1 w2 w3 : BitVec 32) : le (W.tx false [w0, w1, w2, w3]) = w0.toNat + 2 ^ 32 * w1.toNat + 2 ^ 64 * w2.toNat + 2 ^ 96 * w3.toNat := by
  rw [W.tx, W.tx, W.tx, W.tx, W.tx, le_by4, le_by4, le_by4, le_by4, le]
  omega

end Go.Det.P
