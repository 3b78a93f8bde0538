/-
  The log's law: digests, numbers and texts; the digest of cells.
-/
import Derived.Test.YtaennaoaoahjmaaDoorH
import Derived.Test.YtaennaoaoahjmaaDoorLibSM
import Derived.Test.YtaennaoaoahjmaaDoorLibWM
import Derived.Test.YtaennaoaoahjmaaDoorLibKB
import Derived.Test.YtaennaoaoahjmaaDoorDetY
set_option maxRecDepth 100000
set_option maxHeartbeats 1000000
set_option linter.unusedSimpArgs false
set_option linter.unusedVariables false
namespace Go.Proofs.YtaennaoaoahjmaaDoor
open Go.Det Go.Det.S

/-! ### the constants -/
def kv : List (BitVec 32) := [1116352408#32, 1899447441#32, 3049323471#32, 3921009573#32, 961987163#32, 1508970993#32, 2453635748#32, 2870763221#32, 3624381080#32, 310598401#32, 607225278#32, 1426881987#32, 1925078388#32, 2162078206#32, 2614888103#32, 3248222580#32, 3835390401#32, 4022224774#32, 264347078#32, 604807628#32, 770255983#32, 1249150122#32, 1555081692#32, 1996064986#32, 2554220882#32, 2821834349#32, 2952996808#32, 3210313671#32, 3336571891#32, 3584528711#32, 113926993#32, 338241895#32, 666307205#32, 773529912#32, 1294757372#32, 1396182291#32, 1695183700#32, 1986661051#32, 2177026350#32, 2456956037#32, 2730485921#32, 2820302411#32, 3259730800#32, 3345764771#32, 3516065817#32, 3600352804#32, 4094571909#32, 275423344#32, 430227734#32, 506948616#32, 659060556#32, 883997877#32, 958139571#32, 1322822218#32, 1537002063#32, 1747873779#32, 1955562222#32, 2024104815#32, 2227730452#32, 2361852424#32, 2428436474#32, 2756734187#32, 3204031479#32, 3329325298#32]
def v0 : H8 := ⟨1779033703#32, 3144134277#32, 1013904242#32, 2773480762#32, 1359893119#32, 2600822924#32, 528734635#32, 1541459225#32⟩
theorem kv_len : kv.length = 64 := rfl
def G4 : List (Nat × List AV) := [(0, v0.l.map u32), (1, kv.map u32), (2, v0.l.map u32), (3, kv.map u32)]
def G2 : List (Nat × List AV) := [(2, v0.l.map u32), (3, kv.map u32)]

theorem gl_ref (s : Scope) : Gl kv v0 0 1 [s, gScope G4] := ⟨by simp, fun o => rfl, fun o => rfl⟩
theorem gl_sha (s : Scope) : Gl kv v0 2 3 [s, gScope G4] := ⟨by simp, fun o => rfl, fun o => rfl⟩
theorem gl_sha2 (s : Scope) : Gl kv v0 2 3 [s, gScope G2] := ⟨by simp, fun o => rfl, fun o => rfl⟩

/-! ### the sums -/
theorem sum_e (k : Nat) (M : Mem) (hG : Gl kv v0 2 3 M) (s : List UInt8) (hs : s.length < 2 ^ 45) : callFn SP (k + 8) 59 [.str s] M = some (.str (dg kv v0 s), [], M) :=
  shasum_ev (SP := SP) (n16 := 59) (n22 := 68) (n23 := 69) (n24 := 70) (n43 := 78) (n44 := 79) (n45 := 52) (n60 := 81) (n61 := 82) (n71 := 53) (n72 := 87) (n80 := 64) (n81 := 65) rfl rfl rfl rfl rfl rfl rfl rfl rfl rfl rfl rfl rfl rfl k M kv kv_len v0 hG s hs
theorem ref_e (k : Nat) (M : Mem) (hG : Gl kv v0 0 1 M) (s : List UInt8) (hs : s.length < 2 ^ 40) : callFn SP (k + 5) 48 [.str s] M = some (.str (dg kv v0 s), [], M) :=
  refsum_ev (SP := SP) (n17 := 48) (n40 := 60) (n41 := 61) (n42 := 62) (n55 := 71) (n56 := 72) (n57 := 73) (n58 := 74) (n59 := 75) (n70 := 80) rfl rfl rfl rfl rfl rfl rfl rfl rfl rfl k M kv kv_len v0 hG s hs

theorem top_e (k : Nat) (M : Mem) (hG : Gl kv v0 2 3 M) (s : List UInt8) (hs : s.length < 2 ^ 44) : callFn SP (k + 9) 47 [.str s] M = some (.str (dg kv v0 (2 :: s)), [], M) := by
  have h1 := fun k l => sum_e k (mk l :: ro M) (hG.ro.cons (mk l)) (2 :: s) (by rw [List.length_cons]; omega)
  rw [call_fn (f := 47) (by rfl) (by simp)]
  simp (disch := first | omega | (simp; omega)) [h1, if_pos]
theorem kind_e (k : Nat) (M : Mem) (hR : Gl kv v0 0 1 M) (x : UInt8) (s : List UInt8) (hs : s.length < 2 ^ 38) : callFn SP (k + 6) 27 [byteAV x, .str s] M = some (.str (dg kv v0 (x :: s)), [], M) := by
  have h1 := fun k l => ref_e k (mk l :: ro M) (hR.ro.cons (mk l)) (x :: s) (by rw [List.length_cons]; omega)
  have hb : bytesOf [byteAV x] = some [x] := bytesOf_map [x]
  rw [call_fn (f := 27) (by rfl) (by simp)]
  simp (disch := first | omega | (simp; omega)) [h1, hb, if_pos]

/-! ### numbers and texts -/
abbrev b8 (n : Int) : List UInt8 := K.be8 (BitVec.ofInt 64 n)
/-- A text, its length ahead. -/
def et (s : List UInt8) : List UInt8 := K.be8 (BitVec.ofNat 64 s.length) ++ s
theorem et_len (s : List UInt8) : (et s).length = 8 + s.length := by rw [et, List.length_append, K.be8_len]
theorem et_ne (s : List UInt8) : et s ≠ [] := fun h => by have := et_len s; rw [h] at this; simp at this; omega
theorem num_e (k : Nat) (M : Mem) (n : BitVec 64) : callFn SP (k + 2) 38 [u64 n] M = some (.str (K.be8 n), [], M) :=
  K.num_ev (SP := SP) (n20 := 38) (n38 := 52) rfl rfl k M n
theorem text_e (k : Nat) (M : Mem) (s : List UInt8) (hs : s.length < 2 ^ 48) : callFn SP (k + 3) 39 [.str s] M = some (.str (et s), [], M) :=
  K.text_ev (SP := SP) (n20 := 38) (n22 := 39) (n38 := 52) rfl rfl rfl k M s hs
theorem rnum_e (k : Nat) (M : Mem) (n : BitVec 64) : callFn SP (k + 1) 28 [u64 n] M = some (.str (K.be8 n), [], M) := K.refnum_ev (SP := SP) (n21 := 28) rfl k M n
theorem rtext_e (k : Nat) (M : Mem) (s : List UInt8) (hs : s.length < 2 ^ 48) : callFn SP (k + 2) 26 [.str s] M = some (.str (et s), [], M) := K.reftext_ev (SP := SP) (n21 := 28) (n23 := 26) rfl rfl k M s hs

/-- Texts, each with its length ahead, one behind the other. -/
def cat (l : List (List UInt8)) : List UInt8 := (l.map et).flatten
theorem cat_cons (x : List UInt8) (l : List (List UInt8)) : cat (x :: l) = et x ++ cat l := rfl
theorem cat_app (a b : List (List UInt8)) : cat (a ++ b) = cat a ++ cat b := by simp [cat]

/-! ### the digest of cells -/
def bP (D : Nat) : AV := .ptr (some ⟨D, 4000, 2, 0⟩)
/-- The builder, and its buffer. -/
def bM (D : Nat) (t : List UInt8) : List (Nat × Con) :=
  if t = [] then [(4000, .bld 106 (.slice none 0 1) true)] else [(4000, .bld 106 (.slice (some ⟨D, 20008, t.length, 0⟩) t.length 1) true), (20008, .buf 5 t true)]

set_option maxHeartbeats 4000000 in
theorem l29 (k : Nat) (M : Mem) (v : AV) (l : List (List UInt8)) (N : Nat) (h1 : l.length = N) (hN : N < 2 ^ 30) (hv : WS M AV.str v l) (j : Nat) : ∀ (i n : Nat) (t : List UInt8), i + j = N → j < n → t.length + (cat (l.drop i)).length < 2 ^ 44 →
    fgt a29_0 (rnd0 (some (e29_0 (bP M.length) v (.int .i64 N) (.int .i64 i), mk (bM M.length t) :: M)) k29_0 (callFn SP (k + 3)) s29_b0 n) =
      some (.exit 0, x29_0 (bP M.length), mk (bM M.length (t ++ cat (l.drop i))) :: M) := by
  have i1 := WS_ids hv
  induction j with
  | zero =>
    intro i n t h hn hb
    obtain rfl : i = N := by omega
    rw [rnd0_some, List.drop_of_length_le (by omega)]
    conv => lhs; arg 2; arg 1; rw [s29_b0]
    by_cases ht : t = []
    · simp [bP, bM, cat, i1, ht]
    · simp [bP, bM, cat, i1, ht]
  | succ j ih0 =>
    intro i n t h hn hb
    obtain ⟨n, rfl⟩ : ∃ m, n = m + 1 := ⟨n - 1, by omega⟩
    have hi : i < N := by omega
    obtain ⟨d, id, z, rw_, fl, r, hvv, hd, hg⟩ := hv.block (by omega)
    subst hvv
    have ga := map_app_get AV.str l r i (by omega)
    have hn1 : d ≠ M.length := by omega
    rw [drop_nth l i (by omega), cat_cons] at hb ⊢
    rw [List.length_append] at hb
    have ih := ih0 (i + 1) n (t ++ et (nth l i)) (by omega) (by omega) (by rw [List.length_append]; omega)
    rw [List.append_assoc] at ih
    have hxl := et_len (nth l i)
    have htx := fun L => text_e k (mk L :: ro M) (nth l i) (by omega)
    have hne := et_ne (nth l i)
    clear ih0 hv
    generalize cat (l.drop (i + 1)) = rest at *
    generalize et (nth l i) = X at *
    generalize nth l i = y at *
    have hX0 : X.length ≠ 0 := fun h => hne (List.eq_nil_of_length_eq_zero h)
    have hlt : (i : Int) < N := by omega
    have wi : IntKind.wrap .i64 ((i : Int) + 1) = (i : Int) + 1 := IntWalk.i64_in _ (by omega)
    have hlim : t.length + X.length ≤ 35184372088832 := by omega
    have hil : i < l.length := by omega
    rw [rnd0_some]
    conv => lhs; arg 2; arg 1; rw [s29_b0]
    generalize hR : some (Ex.exit 0, x29_0 (bP M.length), mk (bM M.length (t ++ (X ++ rest))) :: M) = RR at ih ⊢
    clear hR
    by_cases ht : t = []
    · subst ht
      simp only [List.nil_append, bM, if_neg hne] at ih
      simp only [List.length_nil, Nat.zero_add] at hb hlim
      simpa [hi, hlt, wi, hlim, hil, get_low, hd, hg, ga, h1, hn1, bP, bM, i1, htx, hX0, hne] using ih
    · have htX : t ++ X ≠ [] := by simp [ht]
      have ht0 : t.length ≠ 0 := fun h => ht (List.eq_nil_of_length_eq_zero h)
      simp only [bM, if_neg htX, List.length_append] at ih
      have ht1 : 0 < t.length := by omega
      simpa [hi, hlt, wi, hlim, hil, get_low, hd, hg, ga, h1, hn1, bP, bM, i1, htx, hX0, hne, ht, ht0, ht1] using ih

theorem digest_e (k : Nat) (M : Mem) (hG : Gl kv v0 2 3 M) (v : AV) (l : List (List UInt8)) (hv : WS M AV.str v l) (hN : l.length < 2 ^ 30) (hl : (cat l).length < 2 ^ 43) : callFn SP (k + 10) 29 [v] M = some (.str (dg kv v0 (2 :: cat l)), [], M) := by
  have hlp := l29 (k + 6) M v l l.length rfl hN hv l.length 0 (l.length + 1) [] (by omega) (by omega) (by simp; omega)
  rw [List.drop_zero, List.nil_append] at hlp
  have h1 := fun L => top_e k (mk L :: ro M) (hG.ro.cons _) (cat l) (by omega)
  have i1 := WS_ids hv
  have n1 := hv.len
  generalize dg kv v0 (2 :: cat l) = DG at *
  generalize cat l = X at *
  rw [call_fn (f := 29) (by rfl) (by simp)]
  simp [n1]
  rw [ev_loop (l.length + 1) (by simp [i1, bP, bM]) hlp (by omega)]
  by_cases hX : X = []
  · subst hX
    simp [bP, bM, h1]
  · have hX0 : 0 < X.length := by cases X; exact absurd rfl hX; simp
    have hlim : X.length ≤ 35184372088832 := by omega
    simp [bP, bM, h1, hX, hX0, hlim]

end Go.Proofs.YtaennaoaoahjmaaDoor
