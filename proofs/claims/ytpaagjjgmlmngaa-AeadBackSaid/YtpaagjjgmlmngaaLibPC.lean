/-
  LIB, poly: the key's half, the sum.
-/
import Derived.Test.YtpaagjjgmlmngaaLibPB
import Derived.Test.YtpaagjjgmlmngaaDetV
set_option maxRecDepth 100000
set_option maxHeartbeats 4000000
set_option linter.unusedSimpArgs false
set_option linter.unusedVariables false
namespace Go.Det.P
open Go.Det

/-- A byte of the key's half, as it is used. -/
def cl (p : Nat) (b : UInt8) : UInt8 := if p % 4 = 3 then b &&& 15 else if p % 4 = 0 ∧ 0 < p then b &&& 252 else b
def clampB (r : List UInt8) : List UInt8 := tab (fun p => cl p (nth r p)) 16
theorem clampB_len (r : List UInt8) : (clampB r).length = 16 := by simp [clampB]
/-- The first i of them. -/
def cli (r : List UInt8) (i : Nat) : List UInt8 := tab (fun p => if p < i then cl p (nth r p) else nth r p) 16
theorem cli_len (r : List UInt8) (i : Nat) : (cli r i).length = 16 := by simp [cli]
theorem cli_zero (r : List UInt8) (h : r.length = 16) : cli r 0 = r := tab_eq _ _ _ h fun i hi => by simp
theorem cli_all (r : List UInt8) : cli r 16 = clampB r := tab_congr _ _ _ fun i hi => if_pos hi
theorem cli_nth (r : List UInt8) (i : Nat) (h : i < 16) : nth (cli r i) i = nth r i := by
  rw [cli, nth_tab _ _ _ h, if_neg (by omega)]
theorem cli_set (r : List UInt8) (i : Nat) (h : i < 16) : (cli r i).set i (cl i (nth r i)) = cli r (i + 1) := by
  refine nth_ext (by simp [cli]) fun k hk => ?_
  simp [cli] at hk
  rw [nth_set _ _ _ _ (by rw [cli_len]; omega), cli, nth_tab _ _ _ hk, cli, nth_tab _ _ _ hk]
  by_cases h1 : i = k
  · subst h1; simp
  · rw [if_neg h1]
    by_cases h2 : k < i
    · rw [if_pos h2, if_pos (by omega)]
    · rw [if_neg h2, if_neg (by omega)]
theorem cli_same (r : List UInt8) (i : Nat) (h : i < 16) (h2 : cl i (nth r i) = nth r i) : cli r i = cli r (i + 1) := by
  rw [← cli_set r i h, h2, ← cli_nth r i h]
  refine (nth_ext (by simp) fun k hk => ?_).symm
  simp [cli_len] at hk
  rw [nth_set _ _ _ _ (by rw [cli_len]; omega)]
  by_cases h1 : i = k
  · rw [if_pos h1, h1]
  · rw [if_neg h1]

theorem l16 (C : Det.Calls) (M : Mem) (r : List UInt8) (hr : r.length = 16) (j : Nat) : ∀ (i n : Nat), i + j = 16 → j < n →
    fgt a16_0 (rnd0 (some (e16_0 (.slice (some ⟨M.length, 12004, 16, 0⟩) 16 1) (.int .i64 16) (.int .i64 i), mk [(12004, .cells ((cli r i).map byteAV) true true)] :: M)) k16_0 C s16_b0 n) =
      some (.exit 0, x16_0 (.slice (some ⟨M.length, 12004, 16, 0⟩) 16 1), mk [(12004, .cells ((clampB r).map byteAV) true true)] :: M) := by
  induction j with
  | zero =>
    intro i n h hn
    obtain rfl : i = 16 := by omega
    rw [rnd0_some]
    conv => lhs; arg 2; arg 1; rw [s16_b0]
    rw [cli_all]
    generalize clampB r = Z
    simp
  | succ j ih0 =>
    intro i n h hn
    obtain ⟨n, rfl⟩ : ∃ m, n = m + 1 := ⟨n - 1, by omega⟩
    have ih := ih0 (i + 1) n (by omega) (by omega)
    have hi : (i : Int) < 16 := by omega
    have hi2 : i < 16 := by omega
    have hl := cli_len r i
    have g : ((cli r i).map byteAV)[i]? = some (byteAV (nth r i)) := by rw [List.getElem?_map, getElem?_nth _ i (by omega), cli_nth r i hi2]; rfl
    rw [rnd0_some]
    conv => lhs; arg 2; arg 1; rw [s16_b0]
    have tE : (i : Int).tmod 4 = (i : Int) % 4 := Int.tmod_eq_emod_of_nonneg (by omega)
    by_cases h3 : i % 4 = 3
    · have t3 : (i : Int).tmod 4 = 3 := by rw [tE]; omega
      have e : cl i (nth r i) = nth r i &&& 15 := if_pos h3
      have hs : ((cli r i).map byteAV).set i (byteAV (nth r i &&& 15)) = (cli r (i + 1)).map byteAV := by rw [← cli_set r i hi2, e, List.map_set]
      generalize cli r (i + 1) = Z2 at *
      generalize cli r i = Z at *
      simpa (disch := omega) [-List.getElem?_map, -List.map_set, hi, hi2, hl, g, t3, hs, if_pos, IntWalk.i64_in] using ih
    · have t3 : ¬ (i : Int).tmod 4 = 3 := by rw [tE]; omega
      by_cases h0 : i % 4 = 0 ∧ 0 < i
      · have t0 : (i : Int).tmod 4 = 0 := by rw [tE]; omega
        have t1 : (0 : Int) < i := by omega
        have e : cl i (nth r i) = nth r i &&& 252 := by rw [cl, if_neg h3, if_pos h0]
        have hs : ((cli r i).map byteAV).set i (byteAV (nth r i &&& 252)) = (cli r (i + 1)).map byteAV := by rw [← cli_set r i hi2, e, List.map_set]
        generalize cli r (i + 1) = Z2 at *
        generalize cli r i = Z at *
        simpa (disch := omega) [-List.getElem?_map, -List.map_set, hi, hi2, hl, g, t3, t0, t1, h0.2, hs, if_pos, IntWalk.i64_in] using ih
      · have e : cl i (nth r i) = nth r i := by rw [cl, if_neg h3, if_neg h0]
        rw [← cli_same r i hi2 e] at ih
        generalize cli r i = Z at *
        by_cases t0 : (i : Int).tmod 4 = 0
        · have t1 : i = 0 := by rw [tE] at t0; omega
          have t2 : ¬ (0 : Int) < i := by omega
          simpa (disch := omega) [-List.getElem?_map, -List.map_set, hi, hi2, hl, g, t3, t0, t2, if_pos, IntWalk.i64_in] using ih
        · simpa (disch := omega) [-List.getElem?_map, -List.map_set, hi, hi2, hl, g, t3, t0, if_pos, IntWalk.i64_in] using ih

/-- What Clamp comes to. -/
def clampR (r : List UInt8) : List UInt8 × Int := if r.length = 16 then (clampB r, 0) else ([], 7)

theorem clamp_ev {SP : SProg} {n16 : Nat} (h16 : SP.fn n16 = some s16) (k : Nat) (M : Mem) (r : List UInt8) : callFn SP (k + 1) n16 [.str r] M = some (.tuple [.str (clampR r).1, .int .i64 (clampR r).2], [], M) := by
  rw [call_fn (h16.trans rfl) (by simp)]
  rw [clampR]
  by_cases h : r.length = 16
  · have h2 : (r.length : Int) = 16 := by omega
    have q := l16 (callFn SP k) M r h 16 0 17 rfl (by omega)
    rw [cli_zero r h] at q
    have hl := clampB_len r
    rw [if_pos h]
    generalize clampB r = Z at *
    simp (disch := omega) [h, h2, if_pos]
    rw [ev_loop 17 (by simp) q (by omega)]
    simp (disch := omega) [hl]
  · have h2 : ¬ (r.length : Int) = 16 := by omega
    simp (disch := omega) [h, h2, if_pos]

/-! ### the sum -/
def addV (a b : V5) : V5 := ⟨a.a0 + b.a0, a.a1 + b.a1, a.a2 + b.a2, a.a3 + b.a3, a.a4 + b.a4⟩
/-- Sixteen bytes of a text, or what is left and a bit above it; the bit above sixteen. -/
def ck (s : List UInt8) : List UInt8 × BitVec 64 := if 16 ≤ s.length then (s.take 16, 1#64) else (s ++ 1 :: List.replicate (15 - s.length) 0, 0#64)
/-- So many parts of a text. -/
def smC (r : V5) : Nat → List UInt8 → V5 → V5
  | 0, _, a => a
  | j + 1, s, a => if s = [] then a else smC r j (s.drop 16) (tv (addV a (ofV (ck s).1 (ck s).2)) r)

theorem l19_1 (C : Det.Calls) (M : Mem) (v0 s : List UInt8) (r a x : V5) (n : Nat) :
    fgt a19_1 (rnd0 (some (e19_1 (.str v0) (.str s) (.ptr (some ⟨M.length, 24008, 5, 0⟩)) (.ptr (some ⟨M.length, 28000, 5, 0⟩)) (.agg x.cells) (.int .i64 0), mk [(24008, .cells r.cells true true), (28000, .cells a.cells true true)] :: M)) k19_1 C s19_b1 (n + 5)) =
      some (.exit 3, x19_1 (.str v0) (.str s) (.ptr (some ⟨M.length, 24008, 5, 0⟩)) (.ptr (some ⟨M.length, 28000, 5, 0⟩)), mk [(24008, .cells r.cells true true), (28000, .cells (addV a x).cells true true)] :: M) := by
  have w1 : IntKind.wrap .i64 1 = 1 := rfl
  have w2 : IntKind.wrap .i64 2 = 2 := rfl
  have w3 : IntKind.wrap .i64 3 = 3 := rfl
  have w4 : IntKind.wrap .i64 4 = 4 := rfl
  have w5 : IntKind.wrap .i64 5 = 5 := rfl
  simp only [V5.cells, addV]
  rw [rnd0_some]
  conv => lhs; arg 2; arg 1; rw [s19_b1]
  simp (disch := omega) [w1, w2, w3, w4, w5, if_pos]
  rw [rnd0_some]
  conv => lhs; arg 2; arg 1; rw [s19_b1]
  simp (disch := omega) [w1, w2, w3, w4, w5, if_pos]
  rw [rnd0_some]
  conv => lhs; arg 2; arg 1; rw [s19_b1]
  simp (disch := omega) [w1, w2, w3, w4, w5, if_pos]
  rw [rnd0_some]
  conv => lhs; arg 2; arg 1; rw [s19_b1]
  simp (disch := omega) [w1, w2, w3, w4, w5, if_pos]
  rw [rnd0_some]
  conv => lhs; arg 2; arg 1; rw [s19_b1]
  simp (disch := omega) [w1, w2, w3, w4, w5, if_pos]
  rw [rnd0_some]
  conv => lhs; arg 2; arg 1; rw [s19_b1]
  simp (disch := omega) [w1, w2, w3, w4, w5, if_pos]

section
variable {SP : SProg} {n16 n29 n30 n31 n32 n40 n41 n42 n53 n54 : Nat} (h41 : SP.fn n41 = some s41) (h30 : SP.fn n30 = some (s30 n41)) (h31 : SP.fn n31 = some (s31 n41)) (h29 : SP.fn n29 = some (s29 n40)) (h32 : SP.fn n32 = some (s32 n40 n42))
    (h40 : SP.fn n40 = some (W.s12 n53 n54)) (h53 : SP.fn n53 = some W.s25) (h54 : SP.fn n54 = some W.s26) (h42 : SP.fn n42 = some W.s21) (h16 : SP.fn n16 = some s16)
include h41 h30 h29 h40 h53 h54

theorem l19_0 (k : Nat) (M : Mem) (key : List UInt8) (r : V5) (j : Nat) : ∀ (n : Nat) (s : List UInt8) (a : V5), s.length ≤ 16 * j → j < n → s.length < 2 ^ 48 →
    fgt a19_0 (rnd0 (some (e19_0 (.str key) (.str s) (.ptr (some ⟨M.length, 24008, 5, 0⟩)) (.ptr (some ⟨M.length, 28000, 5, 0⟩)), mk [(24008, .cells r.cells true true), (28000, .cells a.cells true true)] :: M)) k19_0 (callFn SP (k + 4)) (s19_b0 n29 n30) n) =
      some (.exit 1, x19_0 (.str key) (.ptr (some ⟨M.length, 28000, 5, 0⟩)), mk [(28000, .cells (smC r j s a).cells true true)] :: M) := by
  induction j with
  | zero =>
    intro n s a h hn hs
    have : s = [] := List.eq_nil_of_length_eq_zero (by omega)
    subst this
    rw [rnd0_some]
    conv => lhs; arg 2; arg 1; rw [s19_b0]
    simp only [V5.cells]
    simp [smC]
  | succ j ih0 =>
    intro n s a h hn hs
    obtain ⟨n, rfl⟩ : ∃ m, n = m + 1 := ⟨n - 1, by omega⟩
    by_cases h0 : s = []
    · subst h0
      rw [rnd0_some]
      conv => lhs; arg 2; arg 1; rw [s19_b0]
      simp only [V5.cells]
      simp [smC]
    · have hpos : 0 < s.length := List.length_pos_iff.2 h0
      rw [smC, if_neg h0]
      have ih := ih0 n (s.drop 16) (tv (addV a (ofV (ck s).1 (ck s).2)) r) (by rw [List.length_drop]; omega) (by omega) (by rw [List.length_drop]; omega)
      have hck : (ck s).1.length = 16 := by
        rw [ck]
        by_cases h16 : 16 ≤ s.length
        · rw [if_pos h16]; simp [h16]
        · rw [if_neg h16]; simp; omega
      have ho := fun k M => of_ev h29 h40 h53 h54 k M (ck s).1 hck (ck s).2
      generalize ofV (ck s).1 (ck s).2 = X at *
      have q1 := l19_1 (callFn SP (k + 4)) M key (s.drop 16) r a X 1
      have ht := times_ev h41 h30 (k + 2) (mk [(24008, .cells r.cells true true), (28000, .cells (addV a X).cells true true)] :: M) M.length 28000 (addV a X) r true (by simp) (snd_get M 24008 28000 5 _ _ [] (by omega) rfl)
      rw [snd_put _ _ _ _ _ _ _ (by omega)] at ht
      generalize tv (addV a X) r = Y at *
      generalize addV a X = Z at *
      rw [rnd0_some]
      conv => lhs; arg 2; arg 1; rw [s19_b0]
      simp only [V5.cells] at ih ho q1 ht ⊢
      by_cases h16 : 16 ≤ s.length
      · rw [ck, if_pos h16] at ho
        have e1 : min (s.length : Int) 16 = 16 := by omega
        have e2 : min s.length 16 = 16 := by omega
        obtain ⟨S, hS⟩ : ∃ S, s.take 16 = S := ⟨_, rfl⟩
        have hSl : S.length = 16 := by rw [← hS, List.length_take]; omega
        have f1 : ((s.map byteAV).take 16).take 16 = S.map byteAV := by rw [List.take_take, ← hS, List.map_take]; rfl
        have f2 : (S.map byteAV).take 16 = S.map byteAV := List.take_of_length_le (by simp [hSl])
        obtain ⟨C1, hC1⟩ : ∃ C, S.map byteAV ++ [byteAV 0] = C := ⟨_, rfl⟩
        obtain ⟨C2, hC2⟩ : ∃ C, S.map byteAV ++ [byteAV 1] = C := ⟨_, rfl⟩
        have c1 : C1.length = 17 := by rw [← hC1]; simp [hSl]
        have c2 : C2.length = 17 := by rw [← hC2]; simp [hSl]
        have c3 : C1.set 16 (byteAV 1) = C2 := by rw [← hC1, ← hC2, List.set_append_right _ _ (by simp [hSl])]; simp [hSl]
        have c4 : C2.take 16 = S.map byteAV := by rw [← hC2]; exact List.take_left' (by simp [hSl])
        have c5 : ∀ h : 16 < C2.length, C2[16] = byteAV 1 := fun h => by
          simp only [← hC2]
          rw [List.getElem_append_right (by simp [hSl])]
          simp [hSl]
        rw [hS] at ho
        simp (disch := omega) [hpos, e1, e2, h16, ho, f1, f2, hS, hC1, c1, c2, c3, c4, c5, hSl, if_pos]
        rw [ev_loop 6 (by simp) q1 (by omega)]
        simpa (disch := omega) [ht] using ih
      · rw [ck, if_neg h16] at ho
        have e1 : min (s.length : Int) 16 = s.length := by omega
        have e2 : min s.length 16 = s.length := by omega
        obtain ⟨S, hS⟩ : ∃ S, s ++ 1 :: List.replicate (15 - s.length) 0 = S := ⟨_, rfl⟩
        have hSl : S.length = 16 := by rw [← hS]; simp; omega
        obtain ⟨C1, hC1⟩ : ∃ C, s.map byteAV ++ List.drop s.length [byteAV 0, byteAV 0, byteAV 0, byteAV 0, byteAV 0, byteAV 0, byteAV 0, byteAV 0, byteAV 0, byteAV 0, byteAV 0, byteAV 0, byteAV 0, byteAV 0, byteAV 0, byteAV 0, byteAV 0] = C := ⟨_, rfl⟩
        obtain ⟨C2, hC2⟩ : ∃ C, S.map byteAV ++ [byteAV 0] = C := ⟨_, rfl⟩
        have c0 : s.map byteAV ++ byteAV 0 :: List.replicate (16 - s.length) (byteAV 0) = C1 := by
          rw [← hC1, show [byteAV 0, byteAV 0, byteAV 0, byteAV 0, byteAV 0, byteAV 0, byteAV 0, byteAV 0, byteAV 0, byteAV 0, byteAV 0, byteAV 0, byteAV 0, byteAV 0, byteAV 0, byteAV 0, byteAV 0] = List.replicate 17 (byteAV 0) from rfl, List.drop_replicate, show 17 - s.length = 16 - s.length + 1 by omega, List.replicate_succ]
        have c1 : C1.length = 17 := by rw [← c0]; simp; omega
        have c2 : C2.length = 17 := by rw [← hC2]; simp [hSl]
        have c3 : C1.set s.length (byteAV 1) = C2 := by
          rw [← c0, ← hC2, ← hS, List.set_append_right _ _ (by simp), show 16 - s.length = 15 - s.length + 1 by omega, List.replicate_succ']
          simp
        have c4 : C2.take 16 = S.map byteAV := by rw [← hC2]; exact List.take_left' (by simp [hSl])
        have c5 : ∀ h : 16 < C2.length, C2[16] = byteAV 0 := fun h => by
          simp only [← hC2]
          rw [List.getElem_append_right (by simp [hSl])]
          simp [hSl]
        have c6 : AV.unders 0 C1 = true := by rw [← c0]; simp [AV.unders]
        have e3 : s.drop 16 = [] := List.drop_of_length_le (by omega)
        rw [hS] at ho
        rw [e3] at q1 ih ⊢
        simp (disch := omega) [hpos, e1, e2, h16, ho, hC1, c1, c2, c3, c4, c5, c6, hSl, if_pos]
        rw [ev_loop 6 (by simp) q1 (by omega)]
        simpa (disch := omega) [ht] using ih

def z5 : V5 := ⟨0#64, 0#64, 0#64, 0#64, 0#64⟩
/-- The tag of a text. -/
def tagC (key s : List UInt8) : List UInt8 := pt (lw (cv (cv (smC (ofV (clampB (key.take 16)) 0#64) s.length s z5)))) (key.drop 16)
/-- What Sum comes to. -/
def sumR (key s : List UInt8) : List UInt8 × Int := if key.length = 32 then (if s.length ≤ 65536 then (tagC key s, 0) else ([], 5)) else ([], 7)

include h31 h32 h42 h16 in
theorem sum_ev {n19 : Nat} (h19 : SP.fn n19 = some (s19 n16 n29 n30 n31 n32)) (k : Nat) (M : Mem) (key s : List UInt8) (hs : s.length < 2 ^ 48) :
    callFn SP (k + 5) n19 [.str key, .str s] M = some (.tuple [.str (sumR key s).1, .int .i64 (sumR key s).2], [], M) := by
  rw [call_fn (h19.trans rfl) (by simp)]
  rw [sumR]
  by_cases hk : key.length = 32
  · have hk2 : (key.length : Int) = 32 := by omega
    by_cases hl : s.length ≤ 65536
    · have hl2 : ¬ (65536 : Int) < s.length := by omega
      rw [if_pos hk, if_pos hl]
      have hkt : (key.take 16).length = 16 := by rw [List.length_take]; omega
      have hkd : (key.drop 16).length = 16 := by rw [List.length_drop]; omega
      have hcl := fun k M => clamp_ev h16 k M (key.take 16)
      rw [clampR, if_pos hkt] at hcl
      have hof := fun k M => of_ev h29 h40 h53 h54 k M (clampB (key.take 16)) (clampB_len _) 0#64
      rw [tagC]
      generalize clampB (key.take 16) = H at *
      generalize ofV H 0#64 = R at *
      have q := l19_0 h41 h30 h29 h40 h53 h54 k M key R s.length (s.length + 1) s z5 (by omega) (by omega) hs
      generalize smC R s.length s z5 = A at *
      have hle := least_ev h41 h31 (k + 2) (mk [(28000, .cells A.cells true true)] :: M) M.length 28000 A true (by simp) (top_get M 28000 5 _ [] rfl)
      generalize lw (cv (cv A)) = B at *
      have hpl := fun k M => plus_ev h32 h40 h53 h54 h42 k M B (key.drop 16) hkd
      generalize pt B (key.drop 16) = T at *
      simp only [V5.cells, z5] at q hle hpl hof
      simp (disch := omega) [hk, hk2, hl2, hcl, hof, if_pos]
      rw [ev_loop (s.length + 1) (by simp) q (by omega)]
      have hkk : key.take 32 = key := List.take_of_length_le (by omega)
      simp (disch := omega) [hle, hpl, hk, hkk]
    · have hl2 : (65536 : Int) < s.length := by omega
      rw [if_pos hk, if_neg hl]
      simp (disch := omega) [hk, hk2, hl2]
  · have hk2 : ¬ (key.length : Int) = 32 := by omega
    rw [if_neg hk]
    simp (disch := omega) [hk, hk2]
end
end Go.Det.P
