/-
  LIB, poly: numbers of five limbs, as numbers.
-/
set_option linter.unusedVariables false
set_option linter.unusedSimpArgs false
namespace Go.Det.P
abbrev B := BitVec 64
theorem mask_nat (x : B) : (x &&& 67108863#64).toNat = x.toNat % 67108864 := by
  rw [BitVec.toNat_and]; exact Nat.and_two_pow_sub_one_eq_mod _ 26
theorem shr_nat (x : B) (k : Nat) : (x >>> k).toNat = x.toNat / 2 ^ k := by
  rw [BitVec.toNat_ushiftRight, Nat.shiftRight_eq_div_pow]
theorem shl_nat (x : B) (k : Nat) (h : x.toNat * 2 ^ k < 2 ^ 64) : (x <<< k).toNat = x.toNat * 2 ^ k := by
  rw [BitVec.toNat_shiftLeft, Nat.shiftLeft_eq, Nat.mod_eq_of_lt h]
theorem or_nat (x y : B) (k : Nat) (hx : x.toNat < 2 ^ k) (h : y.toNat * 2 ^ k < 2 ^ 64) : (x ||| y <<< k).toNat = x.toNat + y.toNat * 2 ^ k := by
  rw [BitVec.toNat_or, shl_nat y k h, Nat.or_comm, ← Nat.shiftLeft_eq, ← Nat.shiftLeft_add_eq_or_of_lt hx, Nat.add_comm]
/-- The number of five limbs. -/
def nv (a0 a1 a2 a3 a4 : B) : Nat := a0.toNat + 2^26*a1.toNat + 2^52*a2.toNat + 2^78*a3.toNat + 2^104*a4.toNat

theorem of_nat (w0 w1 w2 w3 ab : B) (h0 : w0.toNat < 2^32) (h1 : w1.toNat < 2^32) (h2 : w2.toNat < 2^32) (h3 : w3.toNat < 2^32) (ha : ab.toNat ≤ 1) :
    let b0 := w0 &&& 67108863#64
    let b1 := (w0 >>> 26 ||| w1 <<< 6) &&& 67108863#64
    let b2 := (w1 >>> 20 ||| w2 <<< 12) &&& 67108863#64
    let b3 := (w2 >>> 14 ||| w3 <<< 18) &&& 67108863#64
    let b4 := w3 >>> 8 ||| ab <<< 24
    nv b0 b1 b2 b3 b4 = w0.toNat + 2^32 * w1.toNat + 2^64 * w2.toNat + 2^96 * w3.toNat + 2^128 * ab.toNat ∧
      b0.toNat < 2^26 ∧ b1.toNat < 2^26 ∧ b2.toNat < 2^26 ∧ b3.toNat < 2^26 ∧ b4.toNat < 2^26 := by
  intro b0 b1 b2 b3 b4
  have e0 : b0.toNat = w0.toNat % 67108864 := mask_nat _
  have e1 : b1.toNat = (w0.toNat / 67108864 + w1.toNat * 64) % 67108864 := by
    show (_ &&& _ : B).toNat = _
    rw [mask_nat, or_nat _ _ 6 (by rw [shr_nat]; omega) (by omega), shr_nat]
  have e2 : b2.toNat = (w1.toNat / 1048576 + w2.toNat * 4096) % 67108864 := by
    show (_ &&& _ : B).toNat = _
    rw [mask_nat, or_nat _ _ 12 (by rw [shr_nat]; omega) (by omega), shr_nat]
  have e3 : b3.toNat = (w2.toNat / 16384 + w3.toNat * 262144) % 67108864 := by
    show (_ &&& _ : B).toNat = _
    rw [mask_nat, or_nat _ _ 18 (by rw [shr_nat]; omega) (by omega), shr_nat]
  have e4 : b4.toNat = w3.toNat / 256 + ab.toNat * 16777216 := by
    show (_ ||| _ : B).toNat = _
    rw [or_nat _ _ 24 (by rw [shr_nat]; omega) (by omega), shr_nat]
  unfold nv
  rw [e0, e1, e2, e3, e4]
  refine ⟨?_, ?_, ?_, ?_, ?_, ?_⟩ <;> omega

theorem add_nat (x y : B) (h : x.toNat + y.toNat < 2 ^ 64) : (x + y).toNat = x.toNat + y.toNat := by
  rw [BitVec.toNat_add, Nat.mod_eq_of_lt h]
theorem mul_nat (x y : B) (h : x.toNat * y.toNat < 2 ^ 64) : (x * y).toNat = x.toNat * y.toNat := by
  rw [BitVec.toNat_mul, Nat.mod_eq_of_lt h]

theorem carry_nat (a0 a1 a2 a3 a4 : B) (h0 : a0.toNat < 2^63) (h1 : a1.toNat < 2^63) (h2 : a2.toNat < 2^63) (h3 : a3.toNat < 2^63) (h4 : a4.toNat < 2^63) :
    let t1 := a1 + a0 >>> 26
    let t2 := a2 + t1 >>> 26
    let t3 := a3 + t2 >>> 26
    let t4 := a4 + t3 >>> 26
    let d0 := (a0 &&& 67108863#64) + t4 >>> 26 * 5#64
    let b0 := d0 &&& 67108863#64
    let b1 := (t1 &&& 67108863#64) + d0 >>> 26
    let b2 := t2 &&& 67108863#64
    let b3 := t3 &&& 67108863#64
    let b4 := t4 &&& 67108863#64
    nv b0 b1 b2 b3 b4 + 1361129467683753853853498429727072845819 * (t4 >>> 26).toNat = nv a0 a1 a2 a3 a4 ∧
      b0.toNat < 2^26 ∧ b1.toNat < 2^26 + 2^16 ∧ b2.toNat < 2^26 ∧ b3.toNat < 2^26 ∧ b4.toNat < 2^26 := by
  intro t1 t2 t3 t4 d0 b0 b1 b2 b3 b4
  have et1 : t1.toNat = a1.toNat + a0.toNat / 67108864 := by
    show (_ + _ : B).toNat = _
    rw [add_nat _ _ (by rw [shr_nat]; omega), shr_nat]
  have et2 : t2.toNat = a2.toNat + t1.toNat / 67108864 := by
    show (_ + _ : B).toNat = _
    rw [add_nat _ _ (by rw [shr_nat]; omega), shr_nat]
  have et3 : t3.toNat = a3.toNat + t2.toNat / 67108864 := by
    show (_ + _ : B).toNat = _
    rw [add_nat _ _ (by rw [shr_nat]; omega), shr_nat]
  have et4 : t4.toNat = a4.toNat + t3.toNat / 67108864 := by
    show (_ + _ : B).toNat = _
    rw [add_nat _ _ (by rw [shr_nat]; omega), shr_nat]
  have e5 : (t4 >>> 26).toNat = t4.toNat / 67108864 := shr_nat _ _
  have e6 : (t4 >>> 26 * 5#64).toNat = t4.toNat / 67108864 * 5 := by
    rw [mul_nat _ _ (by rw [shr_nat]; show _ * 5 < _; omega), shr_nat]; rfl
  have ed0 : d0.toNat = a0.toNat % 67108864 + t4.toNat / 67108864 * 5 := by
    show (_ + _ : B).toNat = _
    rw [add_nat _ _ (by rw [e6, mask_nat]; omega), e6, mask_nat]
  have eb0 : b0.toNat = d0.toNat % 67108864 := mask_nat _
  have eb1 : b1.toNat = t1.toNat % 67108864 + d0.toNat / 67108864 := by
    show (_ + _ : B).toNat = _
    rw [add_nat _ _ (by rw [shr_nat, mask_nat]; omega), shr_nat, mask_nat]
  have eb2 : b2.toNat = t2.toNat % 67108864 := mask_nat _
  have eb3 : b3.toNat = t3.toNat % 67108864 := mask_nat _
  have eb4 : b4.toNat = t4.toNat % 67108864 := mask_nat _
  unfold nv
  rw [e5, eb0, eb1, eb2, eb3, eb4]
  clear_value t1 t2 t3 t4 d0 b0 b1 b2 b3 b4
  refine ⟨?_, ?_, ?_, ?_, ?_, ?_⟩ <;> omega
theorem idt (a0 a1 a2 a3 a4 r0 r1 r2 r3 r4 : Nat) : (a0 + 2^26*a1+2^52*a2+2^78*a3+2^104*a4)*(r0 + 2^26*r1+2^52*r2+2^78*r3+2^104*r4) =
  ((a0*r0 + 5*(a1*r4)+5*(a2*r3)+5*(a3*r2)+5*(a4*r1)) + 2^26*(a0*r1+a1*r0 + 5*(a2*r4)+5*(a3*r3)+5*(a4*r2)) + 2^52*(a0*r2+a1*r1+a2*r0+5*(a3*r4)+5*(a4*r3)) + 2^78*(a0*r3+a1*r2+a2*r1+a3*r0+5*(a4*r4)) + 2^104*(a0*r4+a1*r3+a2*r2+a3*r1+a4*r0)) +
  1361129467683753853853498429727072845819*((a1*r4+a2*r3+a3*r2+a4*r1)+2^26*(a2*r4+a3*r3+a4*r2)+2^52*(a3*r4+a4*r3)+2^78*(a4*r4)) := by
  grind
theorem sum5 (p q r s t : B) (hp : p.toNat < 2^57) (hq : q.toNat < 2^57) (hr : r.toNat < 2^57) (hs : s.toNat < 2^57) (ht : t.toNat < 2^57) : (0#64 + p + q + r + s + t).toNat = p.toNat + q.toNat + r.toNat + s.toNat + t.toNat := by
  simp only [BitVec.toNat_add, show (0#64 : B).toNat = 0 from rfl]
  omega
theorem mul_lt (x y : B) (hx : x.toNat < 2^28) (hy : y.toNat < 2^26) : x.toNat * y.toNat < 2^54 := by
  rw [show 2^54 = 2^28 * 2^26 from rfl]; exact Nat.mul_lt_mul_of_lt_of_lt hx hy
theorem p1_nat (x y : B) (hx : x.toNat < 2^28) (hy : y.toNat < 2^26) : (x * y).toNat = x.toNat * y.toNat := mul_nat _ _ (by have := mul_lt x y hx hy; omega)
theorem p5_nat (x y : B) (hx : x.toNat < 2^28) (hy : y.toNat < 2^26) : (x * y * 5#64).toNat = 5 * (x.toNat * y.toNat) := by
  have h := mul_lt x y hx hy
  rw [mul_nat _ _ (by rw [p1_nat x y hx hy]; show _ * 5 < _; omega), p1_nat x y hx hy, Nat.mul_comm]; rfl

theorem times_nat (a0 a1 a2 a3 a4 r0 r1 r2 r3 r4 : B) (ha0 : a0.toNat < 2^28) (ha1 : a1.toNat < 2^28) (ha2 : a2.toNat < 2^28) (ha3 : a3.toNat < 2^28) (ha4 : a4.toNat < 2^28) (hr0 : r0.toNat < 2^26) (hr1 : r1.toNat < 2^26) (hr2 : r2.toNat < 2^26) (hr3 : r3.toNat < 2^26) (hr4 : r4.toNat < 2^26) :
    let o0 := 0#64 + a0 * r0 + a1 * r4 * 5#64 + a2 * r3 * 5#64 + a3 * r2 * 5#64 + a4 * r1 * 5#64
    let o1 := 0#64 + a0 * r1 + a1 * r0 + a2 * r4 * 5#64 + a3 * r3 * 5#64 + a4 * r2 * 5#64
    let o2 := 0#64 + a0 * r2 + a1 * r1 + a2 * r0 + a3 * r4 * 5#64 + a4 * r3 * 5#64
    let o3 := 0#64 + a0 * r3 + a1 * r2 + a2 * r1 + a3 * r0 + a4 * r4 * 5#64
    let o4 := 0#64 + a0 * r4 + a1 * r3 + a2 * r2 + a3 * r1 + a4 * r0
    (nv o0 o1 o2 o3 o4) % 1361129467683753853853498429727072845819 = (nv a0 a1 a2 a3 a4 * nv r0 r1 r2 r3 r4) % 1361129467683753853853498429727072845819 ∧ o0.toNat < 2^60 ∧ o1.toNat < 2^60 ∧ o2.toNat < 2^60 ∧ o3.toNat < 2^60 ∧ o4.toNat < 2^60 := by
  intro o0 o1 o2 o3 o4
  have m00 := mul_lt a0 r0 ha0 hr0
  have e00 := p1_nat a0 r0 ha0 hr0
  have m01 := mul_lt a0 r1 ha0 hr1
  have e01 := p1_nat a0 r1 ha0 hr1
  have m02 := mul_lt a0 r2 ha0 hr2
  have e02 := p1_nat a0 r2 ha0 hr2
  have m03 := mul_lt a0 r3 ha0 hr3
  have e03 := p1_nat a0 r3 ha0 hr3
  have m04 := mul_lt a0 r4 ha0 hr4
  have e04 := p1_nat a0 r4 ha0 hr4
  have m10 := mul_lt a1 r0 ha1 hr0
  have e10 := p1_nat a1 r0 ha1 hr0
  have m11 := mul_lt a1 r1 ha1 hr1
  have e11 := p1_nat a1 r1 ha1 hr1
  have m12 := mul_lt a1 r2 ha1 hr2
  have e12 := p1_nat a1 r2 ha1 hr2
  have m13 := mul_lt a1 r3 ha1 hr3
  have e13 := p1_nat a1 r3 ha1 hr3
  have m14 := mul_lt a1 r4 ha1 hr4
  have e14 := p5_nat a1 r4 ha1 hr4
  have m20 := mul_lt a2 r0 ha2 hr0
  have e20 := p1_nat a2 r0 ha2 hr0
  have m21 := mul_lt a2 r1 ha2 hr1
  have e21 := p1_nat a2 r1 ha2 hr1
  have m22 := mul_lt a2 r2 ha2 hr2
  have e22 := p1_nat a2 r2 ha2 hr2
  have m23 := mul_lt a2 r3 ha2 hr3
  have e23 := p5_nat a2 r3 ha2 hr3
  have m24 := mul_lt a2 r4 ha2 hr4
  have e24 := p5_nat a2 r4 ha2 hr4
  have m30 := mul_lt a3 r0 ha3 hr0
  have e30 := p1_nat a3 r0 ha3 hr0
  have m31 := mul_lt a3 r1 ha3 hr1
  have e31 := p1_nat a3 r1 ha3 hr1
  have m32 := mul_lt a3 r2 ha3 hr2
  have e32 := p5_nat a3 r2 ha3 hr2
  have m33 := mul_lt a3 r3 ha3 hr3
  have e33 := p5_nat a3 r3 ha3 hr3
  have m34 := mul_lt a3 r4 ha3 hr4
  have e34 := p5_nat a3 r4 ha3 hr4
  have m40 := mul_lt a4 r0 ha4 hr0
  have e40 := p1_nat a4 r0 ha4 hr0
  have m41 := mul_lt a4 r1 ha4 hr1
  have e41 := p5_nat a4 r1 ha4 hr1
  have m42 := mul_lt a4 r2 ha4 hr2
  have e42 := p5_nat a4 r2 ha4 hr2
  have m43 := mul_lt a4 r3 ha4 hr3
  have e43 := p5_nat a4 r3 ha4 hr3
  have m44 := mul_lt a4 r4 ha4 hr4
  have e44 := p5_nat a4 r4 ha4 hr4
  have eo0 : o0.toNat = a0.toNat * r0.toNat + 5 * (a1.toNat * r4.toNat) + 5 * (a2.toNat * r3.toNat) + 5 * (a3.toNat * r2.toNat) + 5 * (a4.toNat * r1.toNat) := by
    show (_ + _ + _ + _ + _ + _ : B).toNat = _
    rw [sum5 _ _ _ _ _ (by rw [e00]; omega) (by rw [e14]; omega) (by rw [e23]; omega) (by rw [e32]; omega) (by rw [e41]; omega), e00, e14, e23, e32, e41]
  have eo1 : o1.toNat = a0.toNat * r1.toNat + a1.toNat * r0.toNat + 5 * (a2.toNat * r4.toNat) + 5 * (a3.toNat * r3.toNat) + 5 * (a4.toNat * r2.toNat) := by
    show (_ + _ + _ + _ + _ + _ : B).toNat = _
    rw [sum5 _ _ _ _ _ (by rw [e01]; omega) (by rw [e10]; omega) (by rw [e24]; omega) (by rw [e33]; omega) (by rw [e42]; omega), e01, e10, e24, e33, e42]
  have eo2 : o2.toNat = a0.toNat * r2.toNat + a1.toNat * r1.toNat + a2.toNat * r0.toNat + 5 * (a3.toNat * r4.toNat) + 5 * (a4.toNat * r3.toNat) := by
    show (_ + _ + _ + _ + _ + _ : B).toNat = _
    rw [sum5 _ _ _ _ _ (by rw [e02]; omega) (by rw [e11]; omega) (by rw [e20]; omega) (by rw [e34]; omega) (by rw [e43]; omega), e02, e11, e20, e34, e43]
  have eo3 : o3.toNat = a0.toNat * r3.toNat + a1.toNat * r2.toNat + a2.toNat * r1.toNat + a3.toNat * r0.toNat + 5 * (a4.toNat * r4.toNat) := by
    show (_ + _ + _ + _ + _ + _ : B).toNat = _
    rw [sum5 _ _ _ _ _ (by rw [e03]; omega) (by rw [e12]; omega) (by rw [e21]; omega) (by rw [e30]; omega) (by rw [e44]; omega), e03, e12, e21, e30, e44]
  have eo4 : o4.toNat = a0.toNat * r4.toNat + a1.toNat * r3.toNat + a2.toNat * r2.toNat + a3.toNat * r1.toNat + a4.toNat * r0.toNat := by
    show (_ + _ + _ + _ + _ + _ : B).toNat = _
    rw [sum5 _ _ _ _ _ (by rw [e04]; omega) (by rw [e13]; omega) (by rw [e22]; omega) (by rw [e31]; omega) (by rw [e40]; omega), e04, e13, e22, e31, e40]
  refine ⟨?_, ?_, ?_, ?_, ?_, ?_⟩
  · unfold nv; rw [eo0, eo1, eo2, eo3, eo4]
    clear_value o0 o1 o2 o3 o4
    rw [idt a0.toNat a1.toNat a2.toNat a3.toNat a4.toNat r0.toNat r1.toNat r2.toNat r3.toNat r4.toNat, Nat.add_mul_mod_self_left]
  · rw [eo0]; omega
  · rw [eo1]; omega
  · rw [eo2]; omega
  · rw [eo3]; omega
  · rw [eo4]; omega

theorem carry2_nat (a0 a1 a2 a3 a4 : B) (h0 : a0.toNat < 2^26) (h1 : a1.toNat < 2^26+2^16) (h2 : a2.toNat < 2^26) (h3 : a3.toNat < 2^26) (h4 : a4.toNat < 2^26) :
    let t1 := a1 + a0 >>> 26
    let t2 := a2 + t1 >>> 26
    let t3 := a3 + t2 >>> 26
    let t4 := a4 + t3 >>> 26
    let d0 := (a0 &&& 67108863#64) + t4 >>> 26 * 5#64
    let b0 := d0 &&& 67108863#64
    let b1 := (t1 &&& 67108863#64) + d0 >>> 26
    b1.toNat < 2^26 := by
  intro t1 t2 t3 t4 d0 b0 b1
  have et1 : t1.toNat = a1.toNat + a0.toNat / 67108864 := by
    show (_ + _ : B).toNat = _
    rw [add_nat _ _ (by rw [shr_nat]; omega), shr_nat]
  have et2 : t2.toNat = a2.toNat + t1.toNat / 67108864 := by
    show (_ + _ : B).toNat = _
    rw [add_nat _ _ (by rw [shr_nat]; omega), shr_nat]
  have et3 : t3.toNat = a3.toNat + t2.toNat / 67108864 := by
    show (_ + _ : B).toNat = _
    rw [add_nat _ _ (by rw [shr_nat]; omega), shr_nat]
  have et4 : t4.toNat = a4.toNat + t3.toNat / 67108864 := by
    show (_ + _ : B).toNat = _
    rw [add_nat _ _ (by rw [shr_nat]; omega), shr_nat]
  have e6 : (t4 >>> 26 * 5#64).toNat = t4.toNat / 67108864 * 5 := by
    rw [mul_nat _ _ (by rw [shr_nat]; show _ * 5 < _; omega), shr_nat]; rfl
  have ed0 : d0.toNat = a0.toNat % 67108864 + t4.toNat / 67108864 * 5 := by
    show (_ + _ : B).toNat = _
    rw [add_nat _ _ (by rw [e6, mask_nat]; omega), e6, mask_nat]
  have eb1 : b1.toNat = t1.toNat % 67108864 + d0.toNat / 67108864 := by
    show (_ + _ : B).toNat = _
    rw [add_nat _ _ (by rw [shr_nat, mask_nat]; omega), shr_nat, mask_nat]
  rw [eb1]
  clear_value t1 t2 t3 t4 d0 b0 b1
  omega

theorem last_nat (a0 a1 a2 a3 a4 : B) (h0 : a0.toNat < 2^26) (h1 : a1.toNat < 2^26) (h2 : a2.toNat < 2^26) (h3 : a3.toNat < 2^26) (h4 : a4.toNat < 2^26) :
    let u0 := a0 + 5#64
    let u1 := a1 + u0 >>> 26
    let u2 := a2 + u1 >>> 26
    let u3 := a3 + u2 >>> 26
    let u4 := a4 + u3 >>> 26
    (u4 >>> 26 = 0#64 → nv a0 a1 a2 a3 a4 < 1361129467683753853853498429727072845819) ∧
    (u4 >>> 26 ≠ 0#64 → nv (u0 &&& 67108863#64) (u1 &&& 67108863#64) (u2 &&& 67108863#64) (u3 &&& 67108863#64) (u4 &&& 67108863#64) + 1361129467683753853853498429727072845819 = nv a0 a1 a2 a3 a4 ∧
      nv (u0 &&& 67108863#64) (u1 &&& 67108863#64) (u2 &&& 67108863#64) (u3 &&& 67108863#64) (u4 &&& 67108863#64) < 1361129467683753853853498429727072845819) := by
  intro u0 u1 u2 u3 u4
  have e0 : u0.toNat = a0.toNat + 5 := by
    show (_ + _ : B).toNat = _
    rw [add_nat _ _ (by show _ + 5 < _; omega)]; rfl
  have e1 : u1.toNat = a1.toNat + u0.toNat / 67108864 := by
    show (_ + _ : B).toNat = _
    rw [add_nat _ _ (by rw [shr_nat]; omega), shr_nat]
  have e2 : u2.toNat = a2.toNat + u1.toNat / 67108864 := by
    show (_ + _ : B).toNat = _
    rw [add_nat _ _ (by rw [shr_nat]; omega), shr_nat]
  have e3 : u3.toNat = a3.toNat + u2.toNat / 67108864 := by
    show (_ + _ : B).toNat = _
    rw [add_nat _ _ (by rw [shr_nat]; omega), shr_nat]
  have e4 : u4.toNat = a4.toNat + u3.toNat / 67108864 := by
    show (_ + _ : B).toNat = _
    rw [add_nat _ _ (by rw [shr_nat]; omega), shr_nat]
  have e5 : u4 >>> 26 = 0#64 ↔ u4.toNat / 67108864 = 0 := by
    rw [← BitVec.toNat_inj, shr_nat]; rfl
  rw [Ne, e5]
  unfold nv
  rw [mask_nat, mask_nat, mask_nat, mask_nat, mask_nat]
  clear_value u0 u1 u2 u3 u4
  refine ⟨fun h => ?_, fun h => ⟨?_, ?_⟩⟩ <;> omega

theorem low32_nat (x : B) : (x &&& 4294967295#64).toNat = x.toNat % 4294967296 := by
  rw [BitVec.toNat_and]; exact Nat.and_two_pow_sub_one_eq_mod _ 32

theorem plusA' (A0 A1 A2 A3 A4 x0 x1 x2 x3 w0 w1 w2 w3 : Nat) (h0 : A0 < 2^26) (h1 : A1 < 2^26) (h2 : A2 < 2^26) (h3 : A3 < 2^26) (h4 : A4 < 2^26)
    (e0 : w0 = A0 + A1 * 67108864) (e1 : w1 = A1 / 64 + A2 * 1048576) (e2 : w2 = A2 / 4096 + A3 * 16384) (e3 : w3 = A3 / 262144 + A4 * 256) :
    (A0 + 2^26 * A1 + 2^52 * A2 + 2^78 * A3 + 2^104 * A4) % 2^128 = (w0 % 4294967296) + 2^32 * (w1 % 4294967296) + 2^64 * (w2 % 4294967296) + 2^96 * (w3 % 4294967296) := by
  have g0 : w0 % 4294967296 = A0 + (A1 % 64) * 67108864 := by omega
  have g1 : w1 % 4294967296 = A1 / 64 + (A2 % 4096) * 1048576 := by omega
  have g2 : w2 % 4294967296 = A2 / 4096 + (A3 % 262144) * 16384 := by omega
  have g3 : w3 % 4294967296 = A3 / 262144 + (A4 % 16777216) * 256 := by omega
  rw [g0, g1, g2, g3]
  omega
theorem plusB (W0 W1 W2 W3 l0 l1 l2 l3 c0 c1 c2 c3 : Nat) (hl0 : l0 < 2^32) (hl1 : l1 < 2^32) (hl2 : l2 < 2^32) (hl3 : l3 < 2^32)
    (f0 : c0 = W0 + l0) (f1 : c1 = c0 / 4294967296 + (W1 + l1)) (f2 : c2 = c1 / 4294967296 + (W2 + l2)) (f3 : c3 = c2 / 4294967296 + (W3 + l3)) :
    c0 % 2^32 + 2^32 * (c1 % 2^32) + 2^64 * (c2 % 2^32) + 2^96 * (c3 % 2^32) = (W0 + 2^32 * W1 + 2^64 * W2 + 2^96 * W3 + (l0 + 2^32 * l1 + 2^64 * l2 + 2^96 * l3)) % 2^128 := by
  have g0 : c0 = 2^32 * (c0 / 4294967296) + c0 % 2^32 := by omega
  have g1 : c1 = 2^32 * (c1 / 4294967296) + c1 % 2^32 := by omega
  have g2 : c2 = 2^32 * (c2 / 4294967296) + c2 % 2^32 := by omega
  have g3 : c3 = 2^32 * (c3 / 4294967296) + c3 % 2^32 := by omega
  have : W0 + 2^32 * W1 + 2^64 * W2 + 2^96 * W3 + (l0 + 2^32 * l1 + 2^64 * l2 + 2^96 * l3) = (c0 % 2^32 + 2^32 * (c1 % 2^32) + 2^64 * (c2 % 2^32) + 2^96 * (c3 % 2^32)) + 2^128 * (c3 / 4294967296) := by omega
  rw [this, Nat.add_mul_mod_self_left]
  exact (Nat.mod_eq_of_lt (by omega)).symm
theorem plus_nat (a0 a1 a2 a3 a4 : B) (h0 : a0.toNat < 2^26) (h1 : a1.toNat < 2^26) (h2 : a2.toNat < 2^26) (h3 : a3.toNat < 2^26) (h4 : a4.toNat < 2^26) (l0 l1 l2 l3 : BitVec 32) :
    let w0 := a0 ||| a1 <<< 26
    let w1 := a1 >>> 6 ||| a2 <<< 20
    let w2 := a2 >>> 12 ||| a3 <<< 14
    let w3 := a3 >>> 18 ||| a4 <<< 8
    let c0 := (w0 &&& 4294967295#64) + l0.setWidth 64
    let c1 := c0 >>> 32 + ((w1 &&& 4294967295#64) + l1.setWidth 64)
    let c2 := c1 >>> 32 + ((w2 &&& 4294967295#64) + l2.setWidth 64)
    let c3 := c2 >>> 32 + ((w3 &&& 4294967295#64) + l3.setWidth 64)
    (c0.setWidth 32).toNat + 2^32 * (c1.setWidth 32).toNat + 2^64 * (c2.setWidth 32).toNat + 2^96 * (c3.setWidth 32).toNat =
      (nv a0 a1 a2 a3 a4 + (l0.toNat + 2^32 * l1.toNat + 2^64 * l2.toNat + 2^96 * l3.toNat)) % 2^128 := by
  intro w0 w1 w2 w3 c0 c1 c2 c3
  have hl0 := l0.isLt
  have hl1 := l1.isLt
  have hl2 := l2.isLt
  have hl3 := l3.isLt
  have e0 : w0.toNat = a0.toNat + a1.toNat * 67108864 := or_nat _ _ 26 h0 (by omega)
  have e1 : w1.toNat = a1.toNat / 64 + a2.toNat * 1048576 := by
    show (_ ||| _ : B).toNat = _
    rw [or_nat _ _ 20 (by rw [shr_nat]; omega) (by omega), shr_nat]
  have e2 : w2.toNat = a2.toNat / 4096 + a3.toNat * 16384 := by
    show (_ ||| _ : B).toNat = _
    rw [or_nat _ _ 14 (by rw [shr_nat]; omega) (by omega), shr_nat]
  have e3 : w3.toNat = a3.toNat / 262144 + a4.toNat * 256 := by
    show (_ ||| _ : B).toNat = _
    rw [or_nat _ _ 8 (by rw [shr_nat]; omega) (by omega), shr_nat]
  have s0 : (l0.setWidth 64).toNat = l0.toNat := by rw [BitVec.toNat_setWidth]; omega
  have s1 : (l1.setWidth 64).toNat = l1.toNat := by rw [BitVec.toNat_setWidth]; omega
  have s2 : (l2.setWidth 64).toNat = l2.toNat := by rw [BitVec.toNat_setWidth]; omega
  have s3 : (l3.setWidth 64).toNat = l3.toNat := by rw [BitVec.toNat_setWidth]; omega
  have f0 : c0.toNat = w0.toNat % 4294967296 + l0.toNat := by
    show (_ + _ : B).toNat = _
    rw [add_nat _ _ (by rw [low32_nat, s0]; omega), low32_nat, s0]
  have f1 : c1.toNat = c0.toNat / 4294967296 + (w1.toNat % 4294967296 + l1.toNat) := by
    show (_ + (_ + _) : B).toNat = _
    have : ((w1 &&& 4294967295#64) + l1.setWidth 64).toNat = w1.toNat % 4294967296 + l1.toNat := by
      rw [add_nat _ _ (by rw [low32_nat, s1]; omega), low32_nat, s1]
    rw [add_nat _ _ (by rw [this, shr_nat]; omega), shr_nat, this]
  have f2 : c2.toNat = c1.toNat / 4294967296 + (w2.toNat % 4294967296 + l2.toNat) := by
    show (_ + (_ + _) : B).toNat = _
    have : ((w2 &&& 4294967295#64) + l2.setWidth 64).toNat = w2.toNat % 4294967296 + l2.toNat := by
      rw [add_nat _ _ (by rw [low32_nat, s2]; omega), low32_nat, s2]
    rw [add_nat _ _ (by rw [this, shr_nat]; omega), shr_nat, this]
  have f3 : c3.toNat = c2.toNat / 4294967296 + (w3.toNat % 4294967296 + l3.toNat) := by
    show (_ + (_ + _) : B).toNat = _
    have : ((w3 &&& 4294967295#64) + l3.setWidth 64).toNat = w3.toNat % 4294967296 + l3.toNat := by
      rw [add_nat _ _ (by rw [low32_nat, s3]; omega), low32_nat, s3]
    rw [add_nat _ _ (by rw [this, shr_nat]; omega), shr_nat, this]
  rw [BitVec.toNat_setWidth, BitVec.toNat_setWidth, BitVec.toNat_setWidth, BitVec.toNat_setWidth]
  clear_value w0 w1 w2 w3 c0 c1 c2 c3
  rw [Nat.add_mod (nv a0 a1 a2 a3 a4), show nv a0 a1 a2 a3 a4 % 2^128 = _ from plusA' _ _ _ _ _ 0 0 0 0 _ _ _ _ h0 h1 h2 h3 h4 e0 e1 e2 e3, Nat.add_mod_mod]
  exact plusB _ _ _ _ _ _ _ _ _ _ _ _ hl0 hl1 hl2 hl3 f0 f1 f2 f3
end Go.Det.P
