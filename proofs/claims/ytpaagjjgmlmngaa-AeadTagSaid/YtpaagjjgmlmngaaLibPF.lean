/-
  LIB, poly: the tag's number.
-/
import Derived.Test.YtpaagjjgmlmngaaLibPE
set_option maxRecDepth 100000
set_option maxHeartbeats 400000
set_option linter.unusedSimpArgs false
set_option linter.unusedVariables false
namespace Go.Det.P
open Go.Det

/-! ### the limbs' numbers -/
/-- What is carried. -/
def bnd (v : V5) : Prop := v.a0.toNat < 2^26 ∧ v.a1.toNat < 2^26 + 2^16 ∧ v.a2.toNat < 2^26 ∧ v.a3.toNat < 2^26 ∧ v.a4.toNat < 2^26
def low (v : V5) : Prop := v.a0.toNat < 2^26 ∧ v.a1.toNat < 2^26 ∧ v.a2.toNat < 2^26 ∧ v.a3.toNat < 2^26 ∧ v.a4.toNat < 2^26
abbrev PP : Nat := 1361129467683753853853498429727072845819

theorem cv_nat (v : V5) (h0 : v.a0.toNat < 2^63) (h1 : v.a1.toNat < 2^63) (h2 : v.a2.toNat < 2^63) (h3 : v.a3.toNat < 2^63) (h4 : v.a4.toNat < 2^63) : (cv v).nat % PP = v.nat % PP ∧ bnd (cv v) := by
  have h := carry_nat v.a0 v.a1 v.a2 v.a3 v.a4 h0 h1 h2 h3 h4
  refine ⟨?_, h.2⟩
  have h1 := h.1
  show nv _ _ _ _ _ % PP = _
  rw [V5.nat, ← h1, Nat.add_mul_mod_self_left]
  rfl

theorem low_cv (v : V5) (h : bnd v) : low (cv v) := by
  have b := (cv_nat v (by have := h.1; omega) (by have := h.2.1; omega) (by have := h.2.2.1; omega) (by have := h.2.2.2.1; omega) (by have := h.2.2.2.2; omega)).2
  have h1 := carry2_nat v.a0 v.a1 v.a2 v.a3 v.a4 h.1 h.2.1 h.2.2.1 h.2.2.2.1 h.2.2.2.2
  exact ⟨b.1, h1, b.2.2.1, b.2.2.2.1, b.2.2.2.2⟩

theorem lw_nat (v : V5) (h : low v) : (lw v).nat = v.nat % PP ∧ low (lw v) := by
  have hl := last_nat v.a0 v.a1 v.a2 v.a3 v.a4 h.1 h.2.1 h.2.2.1 h.2.2.2.1 h.2.2.2.2
  rw [lw]
  by_cases h0 : us4 v >>> 26 = 0#64
  · rw [if_pos h0]
    exact ⟨(Nat.mod_eq_of_lt (hl.1 h0)).symm, h⟩
  · rw [if_neg h0]
    have h1 := hl.2 h0
    have m : ∀ x : BitVec 64, (x &&& 67108863#64).toNat < 2 ^ 26 := fun x => by rw [mask_nat]; omega
    refine ⟨?_, m _, m _, m _, m _, m _⟩
    have e : v.nat = nv (us0 v &&& 67108863#64) (us1 v &&& 67108863#64) (us2 v &&& 67108863#64) (us3 v &&& 67108863#64) (us4 v &&& 67108863#64) + PP := h1.1.symm
    rw [e, Nat.add_mod_right]
    exact (Nat.mod_eq_of_lt h1.2).symm

/-- The same, with whatever sums and products. -/
def tiG {α : Type} [Inhabited α] (ad m1 m5 : α → α → α) (x : α) (r : List α) (i : Nat) (o : List α) : Nat → List α
  | 0 => o
  | k + 1 => if i + k < 5 then (tiG ad m1 m5 x r i o k).set (i + k) (ad (nth (tiG ad m1 m5 x r i o k) (i + k)) (m1 x (nth r k))) else (tiG ad m1 m5 x r i o k).set (i + k - 5) (ad (nth (tiG ad m1 m5 x r i o k) (i + k - 5)) (m5 x (nth r k)))
theorem ti_G (x : BitVec 64) (r : List (BitVec 64)) (i : Nat) (o : List (BitVec 64)) : ∀ k, ti x r i o k = tiG (fun a b => a + b) (fun a b => a * b) (fun a b => a * b * 5#64) x r i o k
  | 0 => rfl
  | k + 1 => by rw [ti, tiG, ti_G x r i o k]
def tmG {α : Type} [Inhabited α] (ad m1 m5 : α → α → α) (z : α) (a r : List α) : Nat → List α
  | 0 => [z, z, z, z, z]
  | i + 1 => tiG ad m1 m5 (nth a i) r i (tmG ad m1 m5 z a r i) 5
theorem tm_G (a r : List (BitVec 64)) : ∀ i, tm a r i = tmG (fun a b => a + b) (fun a b => a * b) (fun a b => a * b * 5#64) 0#64 a r i
  | 0 => rfl
  | i + 1 => by rw [tm, tmG, ti_G, tm_G a r i]
theorem tmG_eq {α : Type} [Inhabited α] (ad m1 m5 : α → α → α) (z a0 a1 a2 a3 a4 r0 r1 r2 r3 r4 : α) : tmG ad m1 m5 z [a0, a1, a2, a3, a4] [r0, r1, r2, r3, r4] 5 =
    [ad (ad (ad (ad (ad z (m1 a0 r0)) (m5 a1 r4)) (m5 a2 r3)) (m5 a3 r2)) (m5 a4 r1), ad (ad (ad (ad (ad z (m1 a0 r1)) (m1 a1 r0)) (m5 a2 r4)) (m5 a3 r3)) (m5 a4 r2),
      ad (ad (ad (ad (ad z (m1 a0 r2)) (m1 a1 r1)) (m1 a2 r0)) (m5 a3 r4)) (m5 a4 r3), ad (ad (ad (ad (ad z (m1 a0 r3)) (m1 a1 r2)) (m1 a2 r1)) (m1 a3 r0)) (m5 a4 r4),
      ad (ad (ad (ad (ad z (m1 a0 r4)) (m1 a1 r3)) (m1 a2 r2)) (m1 a3 r1)) (m1 a4 r0)] := by
  simp [tmG, tiG, nth]

theorem tm_eq (a0 a1 a2 a3 a4 r0 r1 r2 r3 r4 : BitVec 64) : lst (tm [a0, a1, a2, a3, a4] [r0, r1, r2, r3, r4] 5) =
    ⟨0#64 + a0 * r0 + a1 * r4 * 5#64 + a2 * r3 * 5#64 + a3 * r2 * 5#64 + a4 * r1 * 5#64, 0#64 + a0 * r1 + a1 * r0 + a2 * r4 * 5#64 + a3 * r3 * 5#64 + a4 * r2 * 5#64,
      0#64 + a0 * r2 + a1 * r1 + a2 * r0 + a3 * r4 * 5#64 + a4 * r3 * 5#64, 0#64 + a0 * r3 + a1 * r2 + a2 * r1 + a3 * r0 + a4 * r4 * 5#64, 0#64 + a0 * r4 + a1 * r3 + a2 * r2 + a3 * r1 + a4 * r0⟩ := by
  rw [tm_G, tmG_eq]
  simp only [lst, nth, List.getD, List.getElem?_cons_zero, List.getElem?_cons_succ, Option.getD_some]

theorem tv_nat (a r : V5) (ha : a.a0.toNat < 2^28 ∧ a.a1.toNat < 2^28 ∧ a.a2.toNat < 2^28 ∧ a.a3.toNat < 2^28 ∧ a.a4.toNat < 2^28) (hr : low r) : (tv a r).nat % PP = (a.nat * r.nat) % PP ∧ bnd (tv a r) := by
  have h := times_nat a.a0 a.a1 a.a2 a.a3 a.a4 r.a0 r.a1 r.a2 r.a3 r.a4 ha.1 ha.2.1 ha.2.2.1 ha.2.2.2.1 ha.2.2.2.2 hr.1 hr.2.1 hr.2.2.1 hr.2.2.2.1 hr.2.2.2.2
  rw [tv, V5.list, V5.list, tm_eq]
  obtain ⟨h0, h1, h2, h3, h4, h5⟩ := h
  have hc := cv_nat ⟨_, _, _, _, _⟩ (Nat.lt_trans h1 (by omega)) (Nat.lt_trans h2 (by omega)) (Nat.lt_trans h3 (by omega)) (Nat.lt_trans h4 (by omega)) (Nat.lt_trans h5 (by omega))
  exact ⟨hc.1.trans h0, hc.2⟩

theorem addV_nat (a b : V5) (ha : bnd a) (hb : low b) : (addV a b).nat = a.nat + b.nat ∧ (addV a b).a0.toNat < 2^28 ∧ (addV a b).a1.toNat < 2^28 ∧ (addV a b).a2.toNat < 2^28 ∧ (addV a b).a3.toNat < 2^28 ∧ (addV a b).a4.toNat < 2^28 := by
  obtain ⟨a0, a1, a2, a3, a4⟩ := ha
  obtain ⟨b0, b1, b2, b3, b4⟩ := hb
  have e0 : (addV a b).a0.toNat = a.a0.toNat + b.a0.toNat := add_nat _ _ (by omega)
  have e1 : (addV a b).a1.toNat = a.a1.toNat + b.a1.toNat := add_nat _ _ (by omega)
  have e2 : (addV a b).a2.toNat = a.a2.toNat + b.a2.toNat := add_nat _ _ (by omega)
  have e3 : (addV a b).a3.toNat = a.a3.toNat + b.a3.toNat := add_nat _ _ (by omega)
  have e4 : (addV a b).a4.toNat = a.a4.toNat + b.a4.toNat := add_nat _ _ (by omega)
  refine ⟨?_, by omega, by omega, by omega, by omega, by omega⟩
  simp only [V5.nat, nv]
  rw [e0, e1, e2, e3, e4]
  omega

theorem ofV_nat (s : List UInt8) (hs : s.length = 16) (ab : BitVec 64) (hab : ab.toNat ≤ 1) : (ofV s ab).nat = le s + 2 ^ 128 * ab.toNat ∧ low (ofV s ab) := by
  have w : ∀ i, ((W.wat false s i).setWidth 64).toNat = (W.wat false s i).toNat := fun i => by
    have := (W.wat false s i).isLt
    rw [BitVec.toNat_setWidth]; omega
  have wl : ∀ i, ((W.wat false s i).setWidth 64).toNat < 2 ^ 32 := fun i => by rw [w]; exact (W.wat false s i).isLt
  have h := of_nat _ _ _ _ ab (wl 0) (wl 1) (wl 2) (wl 3) hab
  refine ⟨?_, h.2⟩
  have h1 := h.1
  rw [w, w, w, w, wat4_le s hs] at h1
  exact h1

theorem pt_nat (v : V5) (h : low v) (s : List UInt8) (hs : s.length = 16) : le (pt v s) = (v.nat + le s) % 2 ^ 128 ∧ (pt v s).length = 16 := by
  have hp := plus_nat v.a0 v.a1 v.a2 v.a3 v.a4 h.1 h.2.1 h.2.2.1 h.2.2.2.1 h.2.2.2.2 (W.wat false s 0) (W.wat false s 1) (W.wat false s 2) (W.wat false s 3)
  refine ⟨?_, by rw [pt, W.tx_len]; rfl⟩
  rw [pt, pws, le_tx4, ← wat4_le s hs]
  exact hp

/-! ### the sum -/
/-- The number of a part of a text. -/
def ckN (s : List UInt8) : Nat := le (s.take 16) + 256 ^ min 16 s.length
theorem ck_len (s : List UInt8) : (ck s).1.length = 16 := by
  rw [ck]
  by_cases h16 : 16 ≤ s.length
  · rw [if_pos h16]; simp [h16]
  · rw [if_neg h16]; simp; omega
theorem ck_nat (s : List UInt8) : le (ck s).1 + 2 ^ 128 * (ck s).2.toNat = ckN s ∧ (ck s).2.toNat ≤ 1 := by
  rw [ck, ckN]
  by_cases h16 : 16 ≤ s.length
  · rw [if_pos h16, Nat.min_eq_left h16]
    refine ⟨?_, ?_⟩
    · show le (s.take 16) + 2 ^ 128 * (1#64 : BitVec 64).toNat = _
      rw [show (1#64 : BitVec 64).toNat = 1 from rfl]
    · show (1#64 : BitVec 64).toNat ≤ 1
      rw [show (1#64 : BitVec 64).toNat = 1 from rfl]
      exact Nat.le_refl _
  · rw [if_neg h16, Nat.min_eq_right (by omega), List.take_of_length_le (by omega)]
    refine ⟨?_, ?_⟩
    · show le (s ++ 1 :: List.replicate (15 - s.length) 0) + 2 ^ 128 * (0#64 : BitVec 64).toNat = _
      rw [show (0#64 : BitVec 64).toNat = 0 from rfl, le_app, le, le_rep, show (1 : UInt8).toNat = 1 from rfl]
      omega
    · show (0#64 : BitVec 64).toNat ≤ 1
      rw [show (0#64 : BitVec 64).toNat = 0 from rfl]
      omega
theorem ckN_lt (s : List UInt8) : ckN s ≤ 2 ^ 129 := by
  have h := le_lt (s.take 16)
  rw [List.length_take] at h
  have h2 : 256 ^ min 16 s.length ≤ 256 ^ 16 := Nat.pow_le_pow_right (by omega) (by omega)
  rw [ckN]
  omega

/-- So many parts of a text. -/
def accN (R : Nat) : Nat → List UInt8 → Nat → Nat
  | 0, _, a => a
  | j + 1, s, a => if s = [] then a else accN R j (s.drop 16) ((a + ckN s) * R % PP)

theorem smC_nat (r : V5) (hr : low r) : ∀ (j : Nat) (s : List UInt8) (a : V5), bnd a → (smC r j s a).nat % PP = accN r.nat j s (a.nat % PP) % PP ∧ bnd (smC r j s a)
  | 0, s, a, ha => ⟨by rw [smC, accN, Nat.mod_mod], ha⟩
  | j + 1, s, a, ha => by
    rw [smC, accN]
    by_cases h0 : s = []
    · rw [if_pos h0, if_pos h0]; exact ⟨(Nat.mod_mod _ _).symm, ha⟩
    · rw [if_neg h0, if_neg h0]
      have hk := ck_nat s
      have ho := ofV_nat (ck s).1 (ck_len s) (ck s).2 hk.2
      have had := addV_nat a (ofV (ck s).1 (ck s).2) ha ho.2
      have ht := tv_nat (addV a (ofV (ck s).1 (ck s).2)) r had.2 hr
      have ih := smC_nat r hr j (s.drop 16) _ ht.2
      refine ⟨?_, ih.2⟩
      rw [ih.1, ht.1, had.1, ho.1, hk.1]
      have hm : (a.nat % PP + ckN s) * r.nat % PP = (a.nat + ckN s) * r.nat % PP := by rw [Nat.mul_mod, Nat.mod_add_mod, ← Nat.mul_mod]
      rw [hm]

theorem accN_lt (R : Nat) : ∀ (j : Nat) (s : List UInt8) (a : Nat), a < PP → accN R j s a < PP
  | 0, s, a, h => h
  | j + 1, s, a, h => by
    rw [accN]
    split
    · exact h
    · exact accN_lt R j _ _ (Nat.mod_lt _ (by omega))

theorem tag_nat (key s : List UInt8) (hk : key.length = 32) : le (tagC key s) = (accN (le (clampB (key.take 16))) s.length s 0 + le (key.drop 16)) % 2 ^ 128 ∧ (tagC key s).length = 16 := by
  have hr := ofV_nat (clampB (key.take 16)) (clampB_len _) 0#64 (by simp)
  have hz : bnd z5 := by simp [bnd, z5]
  have hsm := smC_nat (ofV (clampB (key.take 16)) 0#64) hr.2 s.length s z5 hz
  have hzn : z5.nat % PP = 0 := by simp [V5.nat, nv, z5]
  have hrn : (ofV (clampB (key.take 16)) 0#64).nat = le (clampB (key.take 16)) := by rw [hr.1]; simp
  rw [hzn, hrn] at hsm
  rw [tagC]
  generalize smC (ofV (clampB (key.take 16)) 0#64) s.length s z5 = A at *
  have b := hsm.2
  have c1 := cv_nat A (by have := b.1; omega) (by have := b.2.1; omega) (by have := b.2.2.1; omega) (by have := b.2.2.2.1; omega) (by have := b.2.2.2.2; omega)
  have b1 := c1.2
  have c2 := cv_nat (cv A) (by have := b1.1; omega) (by have := b1.2.1; omega) (by have := b1.2.2.1; omega) (by have := b1.2.2.2.1; omega) (by have := b1.2.2.2.2; omega)
  have hl := lw_nat (cv (cv A)) (low_cv _ b1)
  have hp := pt_nat (lw (cv (cv A))) hl.2 (key.drop 16) (by rw [List.length_drop]; omega)
  rw [hp.1, hl.1, c2.1, c1.1, hsm.1, Nat.mod_eq_of_lt (accN_lt _ _ _ 0 (by decide))]
  exact ⟨rfl, hp.2⟩
end Go.Det.P
