/-
  LIB, sha, part F: the document's digest; each kind of text.
-/
import Derived.Test.YtaennaoaoahjmaaDoorLibWW
import Derived.Test.YtaennaoaoahjmaaDoorDetW
import Derived.Test.YtaennaoaoahjmaaDoorDetT
set_option maxRecDepth 100000
set_option maxHeartbeats 1000000
set_option linter.unusedSimpArgs false
set_option linter.unusedVariables false
namespace Go.Det.S
open Go.Det

/-! ### the plain law -/
structure H8 where
  a : BitVec 32
  b : BitVec 32
  c : BitVec 32
  d : BitVec 32
  e : BitVec 32
  f : BitVec 32
  g : BitVec 32
  h : BitVec 32
def H8.l (v : H8) : List (BitVec 32) := [v.a, v.b, v.c, v.d, v.e, v.f, v.g, v.h]
theorem H8.len (v : H8) : v.l.length = 8 := rfl

/-- A word turned by three numbers of places; turned by two, and moved. -/
def sg (x : BitVec 32) (p q r : Nat) : BitVec 32 := W.rot x p ^^^ W.rot x q ^^^ W.rot x r
def sm (x : BitVec 32) (p q r : Nat) : BitVec 32 := W.rot x p ^^^ W.rot x q ^^^ x >>> r

def stp (v : H8) (k w : BitVec 32) : H8 :=
  ⟨v.h + sg v.e 26 21 7 + (v.e &&& v.f ^^^ ~~~v.e &&& v.g) + k + w + (sg v.a 30 19 10 + (v.a &&& v.b ^^^ v.a &&& v.c ^^^ v.b &&& v.c)), v.a, v.b, v.c,
    v.d + (v.h + sg v.e 26 21 7 + (v.e &&& v.f ^^^ ~~~v.e &&& v.g) + k + w), v.e, v.f, v.g⟩

/-- The next word of a block. -/
def nw (l : List (BitVec 32)) (t : Nat) : BitVec 32 := nth l (t - 16) + sm (nth l (t - 15)) 25 14 3 + nth l (t - 7) + sm (nth l (t - 2)) 15 13 10
def sch (s : List UInt8) : Nat → List (BitVec 32)
  | 0 => tab (W.wat true s) 16
  | i + 1 => sch s i ++ [nw (sch s i) (16 + i)]
theorem sch_len (s : List UInt8) : ∀ i, (sch s i).length = 16 + i
  | 0 => by rw [sch, tab_len]
  | i + 1 => by rw [sch, List.length_append, sch_len s i]; rfl

/-- The state behind so many rounds. -/
def rd (k w : List (BitVec 32)) (v : H8) : Nat → H8
  | 0 => v
  | i + 1 => stp (rd k w v i) (nth k i) (nth w i)
def H8.add (v u : H8) : H8 := ⟨v.a + u.a, v.b + u.b, v.c + u.c, v.d + u.d, v.e + u.e, v.f + u.f, v.g + u.g, v.h + u.h⟩
/-- The state behind a block. -/
def blk (k : List (BitVec 32)) (v : H8) (s : List UInt8) : H8 := v.add (rd k (sch s 48) v 64)
/-- The state behind so many blocks of a text. -/
def hs (k : List (BitVec 32)) (v : H8) (s : List UInt8) : Nat → H8
  | 0 => v
  | i + 1 => blk k (hs k v s i) ((s.drop (64 * i)).take 64)

theorem hs_app (k : List (BitVec 32)) (v : H8) (s t : List UInt8) : ∀ i, 64 * i ≤ s.length → hs k v (s ++ t) i = hs k v s i
  | 0, _ => rfl
  | i + 1, h => by
    rw [hs, hs, hs_app k v s t i (by omega), List.drop_append_of_le_length (by omega), List.take_append_of_le_length (by rw [List.length_drop]; omega)]

/-- The bits of a length. -/
def bits (n : Nat) : List UInt8 := W.tx true [BitVec.ofNat 32 (8 * n / 2 ^ 32), BitVec.ofNat 32 (8 * n)]
theorem bits_len (n : Nat) : (bits n).length = 8 := by rw [bits, W.tx_len]; rfl
def zn (n : Nat) : Nat := (119 - n % 64) % 64
/-- What comes behind a text. -/
def tl (n : Nat) : List UInt8 := 128 :: (List.replicate (zn n) 0 ++ bits n)
theorem tl_len (n : Nat) : (tl n).length = 9 + zn n := by simp [tl, bits_len]; omega
def pad (s : List UInt8) : List UInt8 := s ++ tl s.length
theorem pad_len (s : List UInt8) : (pad s).length = 64 * ((s.length + 72) / 64) := by
  rw [pad, List.length_append, tl_len, zn]; omega
theorem pad_mod (s : List UInt8) : (pad s).length % 64 = 0 := by rw [pad_len]; omega

/-- The digest of a text. -/
def dg (k : List (BitVec 32)) (v : H8) (s : List UInt8) : List UInt8 := W.tx true (hs k v (pad s) ((pad s).length / 64)).l
theorem dg_len (k : List (BitVec 32)) (v : H8) (s : List UInt8) : (dg k v s).length = 32 := by rw [dg, W.tx_len]; rfl

/-! ### the code -/
-- 22 calls []
def s22 (g1 : Nat) : SFunc := ⟨
  .seq (
    .region [
      ⟨some 0, none, [], .p (.mv (.c (.ptr none)))⟩]) (
  .seq (
    .region [
      ⟨some 1, none, [], .r (.loadN 8 (.g g1 8))⟩,
      ⟨some 2, none, [], .p (.build [u32 0#32, u32 0#32, u32 0#32, u32 0#32, u32 0#32, u32 0#32, u32 0#32, u32 0#32, .str [], .int .i64 0] [(0, 8, .t 1)])⟩,
      ⟨some 3, none, [], .a 4008 (.box (.t 2))⟩,
      ⟨some 0, none, [], .p (.mv (.t 3))⟩]) (
  .ret)),
  4, [Sum.inl 0]⟩

-- 25 calls []
def s25 : SFunc := ⟨
  .seq (
    .region [
      ⟨some 2, none, [], .p (.mv (.c (.int .i64 0)))⟩]) (
  .seq (
    .seq (
      .region [
        ⟨some 3, none, [], .p (.mv (.t 0))⟩,
        ⟨some 4, none, [], .p (.eqn .ptr false (.t 3) (.c (.ptr none)))⟩]) (
    .cond (.t 4) (
      .seq (
        .region [
          ⟨some 2, none, [], .p (.mv (.c (.int .i64 0)))⟩]) (
      .ret)) (
      .skip))) (
  .seq (
    .region [
      ⟨some 5, none, [], .p (.mv (.t 0))⟩,
      ⟨some 6, none, [], .p (.nilChk (.t 5))⟩,
      ⟨some 7, none, [], .p (.faddr 9 (.t 6))⟩,
      ⟨some 8, none, [], .r (.load1 (.t 7))⟩,
      ⟨some 2, none, [], .p (.mv (.t 8))⟩]) (
  .ret))),
  9, [Sum.inl 2]⟩

-- 23 calls [43]
abbrev k23_0 : List Nat := [0, 1]
abbrev a23_0 : List Nat := [0, 1]
abbrev e23_0 (v0 v1 : AV) : Env := [v0, v1, .dead, .dead, .dead, .dead, .dead, .dead, .dead, .dead, .dead, .dead, .dead, .dead, .dead, .dead, .dead, .dead, .dead, .dead, .dead, .dead, .dead, .dead, .dead, .dead, .dead, .dead, .dead, .dead, .dead, .dead, .dead, .dead]
abbrev x23_0 (v0 v1 : AV) : Env := [v0, v1, .dead, .dead, .dead, .dead, .dead, .dead, .dead, .dead, .dead, .dead, .dead, .dead, .dead, .dead, .dead, .dead, .dead, .dead, .dead, .dead, .dead, .dead, .dead, .dead, .dead, .dead, .dead, .dead, .dead, .dead, .dead, .dead]
def s23_b0 (n43 : Nat) : SCode :=
  .seq (
    .seq (
      .region [
        ⟨some 21, none, [], .p (.mv (.t 1))⟩,
        ⟨some 22, none, [], .p (.lenV false (.t 21))⟩,
        ⟨some 23, none, [], .p (.bin .geq (.t 22) (.c (.int .i64 64)))⟩]) (
    .cond (.t 23) (
      .skip) (
      .exit 0))) (
  .block 1 (
    .seq (
      .region [
        ⟨some 24, none, [], .p (.mv (.t 0))⟩,
        ⟨some 25, none, [], .p (.mv (.t 1))⟩,
        ⟨some 26, none, [], .p (.slcStr (.t 25) none (some (.c (.int .i64 64))))⟩,
        ⟨some 27, none, [], .call 16012 4 false (.f n43) [.t 24, .t 26]⟩]) (
    .region [
      ⟨some 28, none, [], .p (.mv (.t 1))⟩,
      ⟨some 29, none, [], .p (.slcStr (.t 28) (some (.c (.int .i64 64))) none)⟩,
      ⟨some 1, none, [], .p (.mv (.t 29))⟩])))

def s23 (n43 : Nat) : SFunc := ⟨
  .seq (
    .seq (
      .region [
        ⟨some 4, none, [], .p (.mv (.t 0))⟩,
        ⟨some 5, none, [], .p (.eqn .ptr false (.t 4) (.c (.ptr none)))⟩]) (
    .cond (.t 5) (
      .ret) (
      .skip))) (
  .seq (
    .region [
      ⟨some 6, none, [], .p (.mv (.t 0))⟩,
      ⟨some 7, none, [], .p (.nilChk (.t 6))⟩,
      ⟨some 8, none, [], .p (.faddr 9 (.t 7))⟩,
      ⟨some 9, none, [], .r (.load1 (.t 8))⟩,
      ⟨some 10, none, [], .p (.mv (.t 1))⟩,
      ⟨some 11, none, [], .p (.lenV false (.t 10))⟩,
      ⟨some 12, none, [], .p (.bin .add (.t 9) (.t 11))⟩,
      ⟨some 13, none, [], .p (.nilChk (.t 6))⟩,
      ⟨some 14, none, [], .p (.faddr 9 (.t 13))⟩,
      ⟨none, none, [], .w (.store1 (.t 14) (.t 12))⟩]) (
  .seq (
    .region [
      ⟨some 15, none, [], .p (.mv (.t 0))⟩,
      ⟨some 16, none, [], .p (.nilChk (.t 15))⟩,
      ⟨some 17, none, [], .p (.faddr 8 (.t 16))⟩,
      ⟨some 18, none, [], .r (.load1 (.t 17))⟩,
      ⟨some 19, none, [], .p (.mv (.t 1))⟩,
      ⟨some 20, none, [], .p (.bin .add (.t 18) (.t 19))⟩,
      ⟨some 1, none, [], .p (.mv (.t 20))⟩]) (
  .seq (
    .block 0 (
      .loop k23_0 a23_0 (s23_b0 n43))) (
  .region [
    ⟨some 30, none, [], .p (.mv (.t 0))⟩,
    ⟨some 31, none, [], .p (.mv (.t 1))⟩,
    ⟨some 32, none, [], .p (.nilChk (.t 30))⟩,
    ⟨some 33, none, [], .p (.faddr 8 (.t 32))⟩,
    ⟨none, none, [], .w (.store1 (.t 33) (.t 31))⟩])))),
  34, []⟩

-- 43 calls [60, 61]
abbrev k43_1 : List Nat := [0, 98, 99]
abbrev a43_1 : List Nat := []
abbrev e43_1 (v0 v98 v99 : AV) : Env := [v0, .dead, .dead, .dead, .dead, .dead, .dead, .dead, .dead, .dead, .dead, .dead, .dead, .dead, .dead, .dead, .dead, .dead, .dead, .dead, .dead, .dead, .dead, .dead, .dead, .dead, .dead, .dead, .dead, .dead, .dead, .dead, .dead, .dead, .dead, .dead, .dead, .dead, .dead, .dead, .dead, .dead, .dead, .dead, .dead, .dead, .dead, .dead, .dead, .dead, .dead, .dead, .dead, .dead, .dead, .dead, .dead, .dead, .dead, .dead, .dead, .dead, .dead, .dead, .dead, .dead, .dead, .dead, .dead, .dead, .dead, .dead, .dead, .dead, .dead, .dead, .dead, .dead, .dead, .dead, .dead, .dead, .dead, .dead, .dead, .dead, .dead, .dead, .dead, .dead, .dead, .dead, .dead, .dead, .dead, .dead, .dead, .dead, v98, v99, .dead, .dead, .dead, .dead, .dead, .dead, .dead, .dead, .dead, .dead, .dead, .dead, .dead, .dead, .dead]
abbrev x43_1 : Env := [.dead, .dead, .dead, .dead, .dead, .dead, .dead, .dead, .dead, .dead, .dead, .dead, .dead, .dead, .dead, .dead, .dead, .dead, .dead, .dead, .dead, .dead, .dead, .dead, .dead, .dead, .dead, .dead, .dead, .dead, .dead, .dead, .dead, .dead, .dead, .dead, .dead, .dead, .dead, .dead, .dead, .dead, .dead, .dead, .dead, .dead, .dead, .dead, .dead, .dead, .dead, .dead, .dead, .dead, .dead, .dead, .dead, .dead, .dead, .dead, .dead, .dead, .dead, .dead, .dead, .dead, .dead, .dead, .dead, .dead, .dead, .dead, .dead, .dead, .dead, .dead, .dead, .dead, .dead, .dead, .dead, .dead, .dead, .dead, .dead, .dead, .dead, .dead, .dead, .dead, .dead, .dead, .dead, .dead, .dead, .dead, .dead, .dead, .dead, .dead, .dead, .dead, .dead, .dead, .dead, .dead, .dead, .dead, .dead, .dead, .dead, .dead, .dead, .dead, .dead]
def s43_b1 : SCode :=
  .seq (
    .region [
      ⟨some 100, none, [], .p (.bin .lss (.t 99) (.c (.int .i64 8)))⟩]) (
  .seq (
    .cond (.t 100) (
      .skip) (
      .exit 2)) (
  .seq (
    .block 3 (
      .seq (
        .region [
          ⟨some 101, none, [], .p (.mv (.t 99))⟩,
          ⟨some 102, none, [], .p (.idxA 8 (.t 98) (.t 99))⟩,
          ⟨some 14, none, [], .p (.mv (.t 101))⟩,
          ⟨some 15, none, [], .p (.mv (.t 102))⟩]) (
      .region [
        ⟨some 103, none, [], .p (.mv (.t 0))⟩,
        ⟨some 104, none, [], .p (.mv (.t 14))⟩,
        ⟨some 105, none, [], .p (.nilChk (.t 103))⟩,
        ⟨some 106, none, [], .p (.faddr 0 (.t 105))⟩,
        ⟨some 107, none, [], .p (.iaddrA 8 1 (.t 106) (.t 104))⟩,
        ⟨some 108, none, [], .r (.load1 (.t 107))⟩,
        ⟨some 109, none, [], .p (.mv (.t 15))⟩,
        ⟨some 110, none, [], .p (.bin .add (.t 108) (.t 109))⟩,
        ⟨some 111, none, [], .p (.nilChk (.t 103))⟩,
        ⟨some 112, none, [], .p (.faddr 0 (.t 111))⟩,
        ⟨some 113, none, [], .p (.iaddrA 8 1 (.t 112) (.t 104))⟩,
        ⟨none, none, [], .w (.store1 (.t 113) (.t 110))⟩]))) (
  .region [
    ⟨some 114, none, [], .p (.bin .add (.t 99) (.c (.int .i64 1)))⟩,
    ⟨some 99, none, [], .p (.mv (.t 114))⟩])))

abbrev k43_0 : List Nat := [0, 4, 5, 22, 23]
abbrev a43_0 : List Nat := [0, 5]
abbrev e43_0 (v0 v4 v5 v22 v23 : AV) : Env := [v0, .dead, .dead, .dead, v4, v5, .dead, .dead, .dead, .dead, .dead, .dead, .dead, .dead, .dead, .dead, .dead, .dead, .dead, .dead, .dead, .dead, v22, v23, .dead, .dead, .dead, .dead, .dead, .dead, .dead, .dead, .dead, .dead, .dead, .dead, .dead, .dead, .dead, .dead, .dead, .dead, .dead, .dead, .dead, .dead, .dead, .dead, .dead, .dead, .dead, .dead, .dead, .dead, .dead, .dead, .dead, .dead, .dead, .dead, .dead, .dead, .dead, .dead, .dead, .dead, .dead, .dead, .dead, .dead, .dead, .dead, .dead, .dead, .dead, .dead, .dead, .dead, .dead, .dead, .dead, .dead, .dead, .dead, .dead, .dead, .dead, .dead, .dead, .dead, .dead, .dead, .dead, .dead, .dead, .dead, .dead, .dead, .dead, .dead, .dead, .dead, .dead, .dead, .dead, .dead, .dead, .dead, .dead, .dead, .dead, .dead, .dead, .dead, .dead]
abbrev x43_0 (v0 v5 : AV) : Env := [v0, .dead, .dead, .dead, .dead, v5, .dead, .dead, .dead, .dead, .dead, .dead, .dead, .dead, .dead, .dead, .dead, .dead, .dead, .dead, .dead, .dead, .dead, .dead, .dead, .dead, .dead, .dead, .dead, .dead, .dead, .dead, .dead, .dead, .dead, .dead, .dead, .dead, .dead, .dead, .dead, .dead, .dead, .dead, .dead, .dead, .dead, .dead, .dead, .dead, .dead, .dead, .dead, .dead, .dead, .dead, .dead, .dead, .dead, .dead, .dead, .dead, .dead, .dead, .dead, .dead, .dead, .dead, .dead, .dead, .dead, .dead, .dead, .dead, .dead, .dead, .dead, .dead, .dead, .dead, .dead, .dead, .dead, .dead, .dead, .dead, .dead, .dead, .dead, .dead, .dead, .dead, .dead, .dead, .dead, .dead, .dead, .dead, .dead, .dead, .dead, .dead, .dead, .dead, .dead, .dead, .dead, .dead, .dead, .dead, .dead, .dead, .dead, .dead, .dead]
def s43_b0 (n61 : Nat) : SCode :=
  .seq (
    .region [
      ⟨some 24, none, [], .p (.bin .lss (.t 23) (.c (.int .i64 64)))⟩]) (
  .seq (
    .cond (.t 24) (
      .skip) (
      .exit 0)) (
  .seq (
    .block 1 (
      .seq (
        .region [
          ⟨some 25, none, [], .p (.mv (.t 23))⟩,
          ⟨some 26, none, [], .p (.idxA 64 (.t 22) (.t 23))⟩,
          ⟨some 6, none, [], .p (.mv (.t 25))⟩,
          ⟨some 7, none, [], .p (.mv (.t 26))⟩]) (
      .seq (
        .region [
          ⟨some 27, none, [], .p (.iaddrA 8 1 (.t 5) (.c (.int .i64 0)))⟩,
          ⟨some 28, none, [], .r (.load1 (.t 27))⟩,
          ⟨some 29, none, [], .p (.iaddrA 8 1 (.t 5) (.c (.int .i64 4)))⟩,
          ⟨some 30, none, [], .r (.load1 (.t 29))⟩,
          ⟨some 8, none, [], .p (.mv (.t 28))⟩,
          ⟨some 9, none, [], .p (.mv (.t 30))⟩]) (
      .seq (
        .region [
          ⟨some 31, none, [], .p (.mv (.t 9))⟩,
          ⟨some 32, none, [], .call 20004 4 true (.f n61) [.t 31, .c (.int .i64 6)]⟩,
          ⟨some 33, none, [], .p (.mv (.t 9))⟩,
          ⟨some 34, none, [], .call 20012 4 true (.f n61) [.t 33, .c (.int .i64 11)]⟩,
          ⟨some 35, none, [], .p (.bin .xor (.t 32) (.t 34))⟩,
          ⟨some 36, none, [], .p (.mv (.t 9))⟩,
          ⟨some 37, none, [], .call 20024 4 true (.f n61) [.t 36, .c (.int .i64 25)]⟩,
          ⟨some 38, none, [], .p (.bin .xor (.t 35) (.t 37))⟩,
          ⟨some 10, none, [], .p (.mv (.t 38))⟩]) (
      .seq (
        .region [
          ⟨some 39, none, [], .p (.mv (.t 8))⟩,
          ⟨some 40, none, [], .call 24004 4 true (.f n61) [.t 39, .c (.int .i64 2)]⟩,
          ⟨some 41, none, [], .p (.mv (.t 8))⟩,
          ⟨some 42, none, [], .call 24012 4 true (.f n61) [.t 41, .c (.int .i64 13)]⟩,
          ⟨some 43, none, [], .p (.bin .xor (.t 40) (.t 42))⟩,
          ⟨some 44, none, [], .p (.mv (.t 8))⟩,
          ⟨some 45, none, [], .call 24024 4 true (.f n61) [.t 44, .c (.int .i64 22)]⟩,
          ⟨some 46, none, [], .p (.bin .xor (.t 43) (.t 45))⟩,
          ⟨some 11, none, [], .p (.mv (.t 46))⟩]) (
      .seq (
        .region [
          ⟨some 47, none, [], .p (.iaddrA 8 1 (.t 5) (.c (.int .i64 7)))⟩,
          ⟨some 48, none, [], .r (.load1 (.t 47))⟩,
          ⟨some 49, none, [], .p (.mv (.t 10))⟩,
          ⟨some 50, none, [], .p (.bin .add (.t 48) (.t 49))⟩,
          ⟨some 51, none, [], .p (.mv (.t 9))⟩,
          ⟨some 52, none, [], .p (.iaddrA 8 1 (.t 5) (.c (.int .i64 5)))⟩,
          ⟨some 53, none, [], .r (.load1 (.t 52))⟩,
          ⟨some 54, none, [], .p (.bin .and (.t 51) (.t 53))⟩,
          ⟨some 55, none, [], .p (.mv (.t 9))⟩,
          ⟨some 56, none, [], .p (.un .xor (.t 55))⟩,
          ⟨some 57, none, [], .p (.iaddrA 8 1 (.t 5) (.c (.int .i64 6)))⟩,
          ⟨some 58, none, [], .r (.load1 (.t 57))⟩,
          ⟨some 59, none, [], .p (.bin .and (.t 56) (.t 58))⟩,
          ⟨some 60, none, [], .p (.bin .xor (.t 54) (.t 59))⟩,
          ⟨some 61, none, [], .p (.bin .add (.t 50) (.t 60))⟩,
          ⟨some 62, none, [], .p (.mv (.t 7))⟩,
          ⟨some 63, none, [], .p (.bin .add (.t 61) (.t 62))⟩,
          ⟨some 64, none, [], .p (.mv (.t 6))⟩,
          ⟨some 65, none, [], .p (.iaddrA 64 1 (.t 4) (.t 64))⟩,
          ⟨some 66, none, [], .r (.load1 (.t 65))⟩,
          ⟨some 67, none, [], .p (.bin .add (.t 63) (.t 66))⟩,
          ⟨some 12, none, [], .p (.mv (.t 67))⟩]) (
      .seq (
        .region [
          ⟨some 68, none, [], .p (.mv (.t 11))⟩,
          ⟨some 69, none, [], .p (.mv (.t 8))⟩,
          ⟨some 70, none, [], .p (.iaddrA 8 1 (.t 5) (.c (.int .i64 1)))⟩,
          ⟨some 71, none, [], .r (.load1 (.t 70))⟩,
          ⟨some 72, none, [], .p (.bin .and (.t 69) (.t 71))⟩,
          ⟨some 73, none, [], .p (.mv (.t 8))⟩,
          ⟨some 74, none, [], .p (.iaddrA 8 1 (.t 5) (.c (.int .i64 2)))⟩,
          ⟨some 75, none, [], .r (.load1 (.t 74))⟩,
          ⟨some 76, none, [], .p (.bin .and (.t 73) (.t 75))⟩,
          ⟨some 77, none, [], .p (.bin .xor (.t 72) (.t 76))⟩,
          ⟨some 78, none, [], .p (.iaddrA 8 1 (.t 5) (.c (.int .i64 1)))⟩,
          ⟨some 79, none, [], .r (.load1 (.t 78))⟩,
          ⟨some 80, none, [], .p (.iaddrA 8 1 (.t 5) (.c (.int .i64 2)))⟩,
          ⟨some 81, none, [], .r (.load1 (.t 80))⟩,
          ⟨some 82, none, [], .p (.bin .and (.t 79) (.t 81))⟩,
          ⟨some 83, none, [], .p (.bin .xor (.t 77) (.t 82))⟩,
          ⟨some 84, none, [], .p (.bin .add (.t 68) (.t 83))⟩,
          ⟨some 13, none, [], .p (.mv (.t 84))⟩]) (
      .seq (
        .region [
          ⟨some 85, none, [], .p (.slcA 8 1 (.t 5) (some (.c (.int .i64 1))) none)⟩,
          ⟨some 86, none, [], .p (.slcA 8 1 (.t 5) none (some (.c (.int .i64 7))))⟩,
          ⟨some 87, none, [], .w (.copy 1 (.t 85) (.t 86))⟩]) (
      .region [
        ⟨some 88, none, [], .p (.mv (.t 12))⟩,
        ⟨some 89, none, [], .p (.mv (.t 13))⟩,
        ⟨some 90, none, [], .p (.bin .add (.t 88) (.t 89))⟩,
        ⟨some 91, none, [], .p (.iaddrA 8 1 (.t 5) (.c (.int .i64 4)))⟩,
        ⟨some 92, none, [], .r (.load1 (.t 91))⟩,
        ⟨some 93, none, [], .p (.mv (.t 12))⟩,
        ⟨some 94, none, [], .p (.bin .add (.t 92) (.t 93))⟩,
        ⟨some 95, none, [], .p (.iaddrA 8 1 (.t 5) (.c (.int .i64 0)))⟩,
        ⟨none, none, [], .w (.store1 (.t 95) (.t 90))⟩,
        ⟨some 96, none, [], .p (.iaddrA 8 1 (.t 5) (.c (.int .i64 4)))⟩,
        ⟨none, none, [], .w (.store1 (.t 96) (.t 94))⟩]))))))))) (
  .region [
    ⟨some 97, none, [], .p (.bin .add (.t 23) (.c (.int .i64 1)))⟩,
    ⟨some 23, none, [], .p (.mv (.t 97))⟩])))

def s43 (g3 n60 n61 : Nat) : SFunc := ⟨
  .seq (
    .regionF [
      ⟨some 16, none, [], .p (.mv (.t 1))⟩,
      ⟨some 17, none, [24, 28], .call 4 4 true (.f n60) [.t 16]⟩,
      ⟨some 18, none, [], .p (.mv (.t 0))⟩,
      ⟨some 19, none, [], .p (.nilChk (.t 18))⟩,
      ⟨some 20, none, [], .p (.faddr 0 (.t 19))⟩,
      ⟨some 21, none, [4, 5, 6, 7, 24, 28], .r (.loadN 8 (.t 20))⟩,
      ⟨some 4, none, [4, 5, 6, 7, 28], .a 24 (.alloc [u32 0#32, u32 0#32, u32 0#32, u32 0#32, u32 0#32, u32 0#32, u32 0#32, u32 0#32, u32 0#32, u32 0#32, u32 0#32, u32 0#32, u32 0#32, u32 0#32, u32 0#32, u32 0#32, u32 0#32, u32 0#32, u32 0#32, u32 0#32, u32 0#32, u32 0#32, u32 0#32, u32 0#32, u32 0#32, u32 0#32, u32 0#32, u32 0#32, u32 0#32, u32 0#32, u32 0#32, u32 0#32, u32 0#32, u32 0#32, u32 0#32, u32 0#32, u32 0#32, u32 0#32, u32 0#32, u32 0#32, u32 0#32, u32 0#32, u32 0#32, u32 0#32, u32 0#32, u32 0#32, u32 0#32, u32 0#32, u32 0#32, u32 0#32, u32 0#32, u32 0#32, u32 0#32, u32 0#32, u32 0#32, u32 0#32, u32 0#32, u32 0#32, u32 0#32, u32 0#32, u32 0#32, u32 0#32, u32 0#32, u32 0#32])⟩,
      ⟨some 5, none, [4, 5, 6, 7, 24], .a 28 (.alloc [u32 0#32, u32 0#32, u32 0#32, u32 0#32, u32 0#32, u32 0#32, u32 0#32, u32 0#32])⟩,
      ⟨none, none, [], .w (.storeN 64 (.t 4) (.t 17))⟩,
      ⟨none, none, [], .w (.storeN 8 (.t 5) (.t 21))⟩] [(20, 4)]) (
  .seq (
    .seq (
      .region [
        ⟨some 22, none, [], .r (.loadN 64 (.g g3 64))⟩,
        ⟨some 23, none, [], .p (.mv (.c (.int .i64 0)))⟩]) (
    .block 0 (
      .loop k43_0 a43_0 (s43_b0 n61)))) (
  .seq (
    .region [
      ⟨some 98, none, [], .r (.loadN 8 (.t 5))⟩,
      ⟨some 99, none, [], .p (.mv (.c (.int .i64 0)))⟩]) (
  .block 2 (
    .loop k43_1 a43_1 s43_b1)))),
  115, []⟩

-- 60 calls [61, 71]
abbrev k60_0 : List Nat := [2, 3, 6]
abbrev a60_0 : List Nat := [2, 3]
abbrev e60_0 (v2 v3 v6 : AV) : Env := [.dead, .dead, v2, v3, .dead, .dead, v6, .dead, .dead, .dead, .dead, .dead, .dead, .dead, .dead, .dead, .dead, .dead, .dead, .dead, .dead, .dead, .dead, .dead, .dead, .dead, .dead, .dead, .dead, .dead, .dead, .dead, .dead, .dead, .dead, .dead, .dead, .dead, .dead, .dead, .dead, .dead, .dead, .dead, .dead, .dead, .dead, .dead, .dead, .dead, .dead, .dead, .dead, .dead, .dead, .dead, .dead, .dead, .dead, .dead, .dead, .dead, .dead]
abbrev x60_0 (v2 v3 : AV) : Env := [.dead, .dead, v2, v3, .dead, .dead, .dead, .dead, .dead, .dead, .dead, .dead, .dead, .dead, .dead, .dead, .dead, .dead, .dead, .dead, .dead, .dead, .dead, .dead, .dead, .dead, .dead, .dead, .dead, .dead, .dead, .dead, .dead, .dead, .dead, .dead, .dead, .dead, .dead, .dead, .dead, .dead, .dead, .dead, .dead, .dead, .dead, .dead, .dead, .dead, .dead, .dead, .dead, .dead, .dead, .dead, .dead, .dead, .dead, .dead, .dead, .dead, .dead]
def s60_b0 (n61 : Nat) : SCode :=
  .seq (
    .seq (
      .region [
        ⟨some 19, none, [], .p (.mv (.t 6))⟩,
        ⟨some 20, none, [], .p (.bin .lss (.t 19) (.c (.int .i64 64)))⟩]) (
    .cond (.t 20) (
      .skip) (
      .exit 0))) (
  .seq (
    .block 1 (
      .seq (
        .region [
          ⟨some 23, none, [], .p (.mv (.t 6))⟩,
          ⟨some 24, none, [], .p (.bin .sub (.t 23) (.c (.int .i64 15)))⟩,
          ⟨some 25, none, [], .p (.iaddrA 64 1 (.t 3) (.t 24))⟩,
          ⟨some 26, none, [], .r (.load1 (.t 25))⟩,
          ⟨some 27, none, [], .p (.mv (.t 6))⟩,
          ⟨some 28, none, [], .p (.bin .sub (.t 27) (.c (.int .i64 2)))⟩,
          ⟨some 29, none, [], .p (.iaddrA 64 1 (.t 3) (.t 28))⟩,
          ⟨some 30, none, [], .r (.load1 (.t 29))⟩,
          ⟨some 7, none, [], .p (.mv (.t 26))⟩,
          ⟨some 8, none, [], .p (.mv (.t 30))⟩]) (
      .seq (
        .region [
          ⟨some 31, none, [], .p (.mv (.t 7))⟩,
          ⟨some 32, none, [], .call 32004 4 true (.f n61) [.t 31, .c (.int .i64 7)]⟩,
          ⟨some 33, none, [], .p (.mv (.t 7))⟩,
          ⟨some 34, none, [], .call 32012 4 true (.f n61) [.t 33, .c (.int .i64 18)]⟩,
          ⟨some 35, none, [], .p (.bin .xor (.t 32) (.t 34))⟩,
          ⟨some 36, none, [], .p (.mv (.t 7))⟩,
          ⟨some 37, none, [], .p (.bin .shr (.t 36) (.c (u64 3#64)))⟩,
          ⟨some 38, none, [], .p (.bin .xor (.t 35) (.t 37))⟩,
          ⟨some 9, none, [], .p (.mv (.t 38))⟩]) (
      .seq (
        .region [
          ⟨some 39, none, [], .p (.mv (.t 8))⟩,
          ⟨some 40, none, [], .call 36004 4 true (.f n61) [.t 39, .c (.int .i64 17)]⟩,
          ⟨some 41, none, [], .p (.mv (.t 8))⟩,
          ⟨some 42, none, [], .call 36012 4 true (.f n61) [.t 41, .c (.int .i64 19)]⟩,
          ⟨some 43, none, [], .p (.bin .xor (.t 40) (.t 42))⟩,
          ⟨some 44, none, [], .p (.mv (.t 8))⟩,
          ⟨some 45, none, [], .p (.bin .shr (.t 44) (.c (u64 10#64)))⟩,
          ⟨some 46, none, [], .p (.bin .xor (.t 43) (.t 45))⟩,
          ⟨some 10, none, [], .p (.mv (.t 46))⟩]) (
      .region [
        ⟨some 47, none, [], .p (.mv (.t 6))⟩,
        ⟨some 48, none, [], .p (.mv (.t 6))⟩,
        ⟨some 49, none, [], .p (.bin .sub (.t 48) (.c (.int .i64 16)))⟩,
        ⟨some 50, none, [], .p (.iaddrA 64 1 (.t 3) (.t 49))⟩,
        ⟨some 51, none, [], .r (.load1 (.t 50))⟩,
        ⟨some 52, none, [], .p (.mv (.t 9))⟩,
        ⟨some 53, none, [], .p (.bin .add (.t 51) (.t 52))⟩,
        ⟨some 54, none, [], .p (.mv (.t 6))⟩,
        ⟨some 55, none, [], .p (.bin .sub (.t 54) (.c (.int .i64 7)))⟩,
        ⟨some 56, none, [], .p (.iaddrA 64 1 (.t 3) (.t 55))⟩,
        ⟨some 57, none, [], .r (.load1 (.t 56))⟩,
        ⟨some 58, none, [], .p (.bin .add (.t 53) (.t 57))⟩,
        ⟨some 59, none, [], .p (.mv (.t 10))⟩,
        ⟨some 60, none, [], .p (.bin .add (.t 58) (.t 59))⟩,
        ⟨some 61, none, [], .p (.iaddrA 64 1 (.t 3) (.t 47))⟩,
        ⟨none, none, [], .w (.store1 (.t 61) (.t 60))⟩]))))) (
  .region [
    ⟨some 21, none, [], .p (.mv (.t 6))⟩,
    ⟨some 22, none, [], .p (.bin .add (.t 21) (.c (.int .i64 1)))⟩,
    ⟨some 6, none, [], .p (.mv (.t 22))⟩]))

def s60 (n61 n71 : Nat) : SFunc := ⟨
  .seq (
    .region [
      ⟨some 2, none, [], .a 0 (.alloc [u32 0#32, u32 0#32, u32 0#32, u32 0#32, u32 0#32, u32 0#32, u32 0#32, u32 0#32, u32 0#32, u32 0#32, u32 0#32, u32 0#32, u32 0#32, u32 0#32, u32 0#32, u32 0#32, u32 0#32, u32 0#32, u32 0#32, u32 0#32, u32 0#32, u32 0#32, u32 0#32, u32 0#32, u32 0#32, u32 0#32, u32 0#32, u32 0#32, u32 0#32, u32 0#32, u32 0#32, u32 0#32, u32 0#32, u32 0#32, u32 0#32, u32 0#32, u32 0#32, u32 0#32, u32 0#32, u32 0#32, u32 0#32, u32 0#32, u32 0#32, u32 0#32, u32 0#32, u32 0#32, u32 0#32, u32 0#32, u32 0#32, u32 0#32, u32 0#32, u32 0#32, u32 0#32, u32 0#32, u32 0#32, u32 0#32, u32 0#32, u32 0#32, u32 0#32, u32 0#32, u32 0#32, u32 0#32, u32 0#32, u32 0#32])⟩]) (
  .seq (
    .region [
      ⟨some 3, none, [], .a 4000 (.alloc [u32 0#32, u32 0#32, u32 0#32, u32 0#32, u32 0#32, u32 0#32, u32 0#32, u32 0#32, u32 0#32, u32 0#32, u32 0#32, u32 0#32, u32 0#32, u32 0#32, u32 0#32, u32 0#32, u32 0#32, u32 0#32, u32 0#32, u32 0#32, u32 0#32, u32 0#32, u32 0#32, u32 0#32, u32 0#32, u32 0#32, u32 0#32, u32 0#32, u32 0#32, u32 0#32, u32 0#32, u32 0#32, u32 0#32, u32 0#32, u32 0#32, u32 0#32, u32 0#32, u32 0#32, u32 0#32, u32 0#32, u32 0#32, u32 0#32, u32 0#32, u32 0#32, u32 0#32, u32 0#32, u32 0#32, u32 0#32, u32 0#32, u32 0#32, u32 0#32, u32 0#32, u32 0#32, u32 0#32, u32 0#32, u32 0#32, u32 0#32, u32 0#32, u32 0#32, u32 0#32, u32 0#32, u32 0#32, u32 0#32, u32 0#32])⟩]) (
  .seq (
    .region [
      ⟨some 12, none, [], .p (.mv (.t 0))⟩,
      ⟨some 13, none, [], .call 8004 4 true (.f n71) [.t 12]⟩,
      ⟨some 11, none, [], .p (.mv (.t 13))⟩,
      ⟨some 14, none, [], .p (.extract (.t 11) 0)⟩,
      ⟨some 15, none, [], .p (.extract (.t 11) 1)⟩,
      ⟨some 4, none, [], .p (.mv (.t 14))⟩,
      ⟨some 5, none, [], .p (.mv (.t 15))⟩]) (
  .seq (
    .region [
      ⟨some 16, none, [], .p (.slcA 64 1 (.t 3) none none)⟩,
      ⟨some 17, none, [], .p (.mv (.t 4))⟩,
      ⟨some 18, none, [], .w (.copy 1 (.t 16) (.t 17))⟩]) (
  .seq (
    .seq (
      .region [
        ⟨some 6, none, [], .p (.mv (.c (.int .i64 16)))⟩]) (
    .block 0 (
      .loop k60_0 a60_0 (s60_b0 n61)))) (
  .seq (
    .region [
      ⟨some 62, none, [], .r (.loadN 64 (.t 3))⟩,
      ⟨none, none, [], .w (.storeN 64 (.t 2) (.t 62))⟩]) (
  .ret)))))),
  63, [Sum.inr (2, 64, true)]⟩

-- 24 calls [23, 44, 45]
def s24 (n23 n44 n45 : Nat) : SFunc := ⟨
  .seq (
    .region [
      ⟨some 2, none, [], .p (.mv (.c (.str [])))⟩]) (
  .seq (
    .seq (
      .region [
        ⟨some 6, none, [], .p (.mv (.t 0))⟩,
        ⟨some 7, none, [], .p (.eqn .ptr false (.t 6) (.c (.ptr none)))⟩]) (
    .cond (.t 7) (
      .seq (
        .region [
          ⟨some 2, none, [], .p (.mv (.c (.str [])))⟩]) (
      .ret)) (
      .skip))) (
  .seq (
    .region [
      ⟨some 8, none, [], .p (.mv (.t 0))⟩,
      ⟨some 9, none, [], .p (.nilChk (.t 8))⟩,
      ⟨some 10, none, [], .r (.loadN 10 (.t 9))⟩,
      ⟨some 3, none, [], .a 12012 (.alloc [u32 0#32, u32 0#32, u32 0#32, u32 0#32, u32 0#32, u32 0#32, u32 0#32, u32 0#32, .str [], .int .i64 0])⟩,
      ⟨none, none, [], .w (.storeN 10 (.t 3) (.t 10))⟩]) (
  .seq (
    .region [
      ⟨some 11, none, [], .p (.mv (.t 0))⟩,
      ⟨some 12, none, [], .p (.nilChk (.t 11))⟩,
      ⟨some 13, none, [], .p (.faddr 9 (.t 12))⟩,
      ⟨some 14, none, [], .r (.load1 (.t 13))⟩,
      ⟨some 15, none, [], .p (.conv .u64 (.t 14))⟩,
      ⟨some 16, none, [], .p (.bin .mul (.t 15) (.c (u64 8#64)))⟩,
      ⟨some 4, none, [], .p (.mv (.t 16))⟩]) (
  .seq (
    .region [
      ⟨some 17, none, [], .p (.mv (.t 0))⟩,
      ⟨some 18, none, [], .p (.nilChk (.t 17))⟩,
      ⟨some 19, none, [], .p (.faddr 8 (.t 18))⟩,
      ⟨some 20, none, [], .r (.load1 (.t 19))⟩,
      ⟨some 21, none, [], .p (.lenV false (.t 20))⟩,
      ⟨some 22, none, [], .p (.bin .sub (.c (.int .i64 119)) (.t 21))⟩,
      ⟨some 23, none, [], .p (.bin .rem (.t 22) (.c (.int .i64 64)))⟩,
      ⟨some 5, none, [], .p (.mv (.t 23))⟩]) (
  .seq (
    .region [
      ⟨some 24, none, [], .p (.mv (.t 5))⟩,
      ⟨some 25, none, [], .call 24004 4 true (.f n44) [.c (.str [0]), .t 24]⟩,
      ⟨some 26, none, [], .p (.bin .add (.c (.str [128])) (.t 25))⟩,
      ⟨some 27, none, [], .p (.mv (.t 4))⟩,
      ⟨some 28, none, [], .p (.bin .shr (.t 27) (.c (u64 32#64)))⟩,
      ⟨some 29, none, [], .p (.conv .u32 (.t 28))⟩,
      ⟨some 30, none, [], .p (.mv (.t 4))⟩,
      ⟨some 31, none, [], .p (.conv .u32 (.t 30))⟩,
      ⟨some 32, none, [], .a 24032 (.buildS 1 2 [u32 0#32] [(0, 1, .t 29), (1, 1, .t 31)])⟩,
      ⟨some 33, none, [], .call 24036 4 true (.f n45) [.t 32]⟩,
      ⟨some 34, none, [], .p (.bin .add (.t 26) (.t 33))⟩,
      ⟨some 35, none, [], .call 24044 4 false (.f n23) [.t 3, .t 34]⟩]) (
  .seq (
    .region [
      ⟨some 36, none, [], .p (.faddr 0 (.t 3))⟩,
      ⟨some 37, none, [], .p (.slcA 8 1 (.t 36) none none)⟩,
      ⟨some 38, none, [], .call 28008 4 true (.f n45) [.t 37]⟩,
      ⟨some 2, none, [], .p (.mv (.t 38))⟩]) (
  .ret))))))),
  39, [Sum.inl 2]⟩

-- 16 calls [22, 23, 24]
def s16 (n22 n23 n24 : Nat) : SFunc := ⟨
  .seq (
    .region [
      ⟨some 2, none, [], .p (.mv (.c (.str [])))⟩]) (
  .seq (
    .region [
      ⟨some 4, none, [], .call 4000 4 true (.f n22) []⟩,
      ⟨some 3, none, [], .p (.mv (.t 4))⟩]) (
  .seq (
    .region [
      ⟨some 5, none, [], .p (.mv (.t 3))⟩,
      ⟨some 6, none, [], .p (.mv (.t 0))⟩,
      ⟨some 7, none, [], .call 8008 4 false (.f n23) [.t 5, .t 6]⟩]) (
  .seq (
    .region [
      ⟨some 8, none, [], .p (.mv (.t 3))⟩,
      ⟨some 9, none, [], .call 12004 4 true (.f n24) [.t 8]⟩,
      ⟨some 2, none, [], .p (.mv (.t 9))⟩]) (
  .ret)))),
  10, [Sum.inl 2]⟩

-- 18 calls [16]
def s18 (n16 : Nat) : SFunc := ⟨
  .seq (
    .region [
      ⟨some 2, none, [], .p (.mv (.c (.str [])))⟩]) (
  .seq (
    .region [
      ⟨some 3, none, [], .p (.mv (.t 0))⟩,
      ⟨some 4, none, [], .p (.bin .add (.c (.str [0])) (.t 3))⟩,
      ⟨some 5, none, [], .call 4008 4 true (.f n16) [.t 4]⟩,
      ⟨some 2, none, [], .p (.mv (.t 5))⟩]) (
  .ret)),
  6, [Sum.inl 2]⟩

-- 20 calls [16]
def s20 (n16 : Nat) : SFunc := ⟨
  .seq (
    .region [
      ⟨some 2, none, [], .p (.mv (.c (.str [])))⟩]) (
  .seq (
    .region [
      ⟨some 3, none, [], .p (.mv (.t 0))⟩,
      ⟨some 4, none, [], .p (.bin .add (.c (.str [1])) (.t 3))⟩,
      ⟨some 5, none, [], .call 4008 4 true (.f n16) [.t 4]⟩,
      ⟨some 2, none, [], .p (.mv (.t 5))⟩]) (
  .ret)),
  6, [Sum.inl 2]⟩

-- 21 calls [16]
def s21 (n16 : Nat) : SFunc := ⟨
  .seq (
    .region [
      ⟨some 2, none, [], .p (.mv (.c (.str [])))⟩]) (
  .seq (
    .region [
      ⟨some 3, none, [], .p (.mv (.t 0))⟩,
      ⟨some 4, none, [], .p (.bin .add (.c (.str [2])) (.t 3))⟩,
      ⟨some 5, none, [], .call 4008 4 true (.f n16) [.t 4]⟩,
      ⟨some 2, none, [], .p (.mv (.t 5))⟩]) (
  .ret)),
  6, [Sum.inl 2]⟩

-- 56 calls [70]
def s56 (n70 : Nat) : SFunc := ⟨
  .seq (
    .region [
      ⟨some 8, none, [], .p (.mv (.c (u32 0#32)))⟩]) (
  .seq (
    .region [
      ⟨some 11, none, [], .p (.mv (.t 0))⟩,
      ⟨some 12, none, [], .p (.mv (.t 1))⟩,
      ⟨some 13, none, [], .call 4008 4 true (.f n70) [.t 11, .t 12]⟩,
      ⟨some 9, none, [], .p (.mv (.t 13))⟩]) (
  .seq (
    .region [
      ⟨some 14, none, [], .p (.mv (.t 0))⟩,
      ⟨some 15, none, [], .p (.mv (.t 2))⟩,
      ⟨some 16, none, [], .call 8008 4 true (.f n70) [.t 14, .t 15]⟩,
      ⟨some 10, none, [], .p (.mv (.t 16))⟩]) (
  .seq (
    .region [
      ⟨some 17, none, [], .p (.mv (.t 9))⟩,
      ⟨some 18, none, [], .p (.mv (.t 10))⟩,
      ⟨some 19, none, [], .p (.bin .xor (.t 17) (.t 18))⟩,
      ⟨some 20, none, [], .p (.mv (.t 0))⟩,
      ⟨some 21, none, [], .p (.mv (.t 3))⟩,
      ⟨some 22, none, [], .p (.bin .quo (.t 20) (.t 21))⟩,
      ⟨some 23, none, [], .p (.bin .xor (.t 19) (.t 22))⟩,
      ⟨some 8, none, [], .p (.mv (.t 23))⟩]) (
  .ret)))),
  24, [Sum.inl 8]⟩

-- 57 calls [70]
def s57 (n70 : Nat) : SFunc := ⟨
  .seq (
    .region [
      ⟨some 8, none, [], .p (.mv (.c (u32 0#32)))⟩]) (
  .seq (
    .region [
      ⟨some 12, none, [], .p (.mv (.t 0))⟩,
      ⟨some 13, none, [], .p (.mv (.t 1))⟩,
      ⟨some 14, none, [], .call 4008 4 true (.f n70) [.t 12, .t 13]⟩,
      ⟨some 9, none, [], .p (.mv (.t 14))⟩]) (
  .seq (
    .region [
      ⟨some 15, none, [], .p (.mv (.t 0))⟩,
      ⟨some 16, none, [], .p (.mv (.t 2))⟩,
      ⟨some 17, none, [], .call 8008 4 true (.f n70) [.t 15, .t 16]⟩,
      ⟨some 10, none, [], .p (.mv (.t 17))⟩]) (
  .seq (
    .region [
      ⟨some 18, none, [], .p (.mv (.t 0))⟩,
      ⟨some 19, none, [], .p (.mv (.t 3))⟩,
      ⟨some 20, none, [], .call 12008 4 true (.f n70) [.t 18, .t 19]⟩,
      ⟨some 11, none, [], .p (.mv (.t 20))⟩]) (
  .seq (
    .region [
      ⟨some 21, none, [], .p (.mv (.t 9))⟩,
      ⟨some 22, none, [], .p (.mv (.t 10))⟩,
      ⟨some 23, none, [], .p (.bin .xor (.t 21) (.t 22))⟩,
      ⟨some 24, none, [], .p (.mv (.t 11))⟩,
      ⟨some 25, none, [], .p (.bin .xor (.t 23) (.t 24))⟩,
      ⟨some 8, none, [], .p (.mv (.t 25))⟩]) (
  .ret))))),
  26, [Sum.inl 8]⟩

-- 58 calls []
def s58 : SFunc := ⟨
  .seq (
    .region [
      ⟨some 6, none, [], .p (.mv (.c (u32 0#32)))⟩]) (
  .seq (
    .region [
      ⟨some 7, none, [], .p (.mv (.t 0))⟩,
      ⟨some 8, none, [], .p (.mv (.t 1))⟩,
      ⟨some 9, none, [], .p (.bin .and (.t 7) (.t 8))⟩,
      ⟨some 10, none, [], .p (.mv (.t 0))⟩,
      ⟨some 11, none, [], .p (.bin .sub (.c (u32 4294967295#32)) (.t 10))⟩,
      ⟨some 12, none, [], .p (.mv (.t 2))⟩,
      ⟨some 13, none, [], .p (.bin .and (.t 11) (.t 12))⟩,
      ⟨some 14, none, [], .p (.bin .xor (.t 9) (.t 13))⟩,
      ⟨some 6, none, [], .p (.mv (.t 14))⟩]) (
  .ret)),
  15, [Sum.inl 6]⟩

-- 59 calls []
def s59 : SFunc := ⟨
  .seq (
    .region [
      ⟨some 6, none, [], .p (.mv (.c (u32 0#32)))⟩]) (
  .seq (
    .region [
      ⟨some 7, none, [], .p (.mv (.t 0))⟩,
      ⟨some 8, none, [], .p (.mv (.t 1))⟩,
      ⟨some 9, none, [], .p (.bin .and (.t 7) (.t 8))⟩,
      ⟨some 10, none, [], .p (.mv (.t 0))⟩,
      ⟨some 11, none, [], .p (.mv (.t 2))⟩,
      ⟨some 12, none, [], .p (.bin .and (.t 10) (.t 11))⟩,
      ⟨some 13, none, [], .p (.bin .xor (.t 9) (.t 12))⟩,
      ⟨some 14, none, [], .p (.mv (.t 1))⟩,
      ⟨some 15, none, [], .p (.mv (.t 2))⟩,
      ⟨some 16, none, [], .p (.bin .and (.t 14) (.t 15))⟩,
      ⟨some 17, none, [], .p (.bin .xor (.t 13) (.t 16))⟩,
      ⟨some 6, none, [], .p (.mv (.t 17))⟩]) (
  .ret)),
  18, [Sum.inl 6]⟩

-- 41 calls [55, 56, 57, 58, 59]
abbrev k41_1 : List Nat := [2, 4, 5, 10, 11, 12, 13, 14, 15, 16, 17, 18]
abbrev a41_1 : List Nat := [2, 4, 10, 11, 12, 13, 14, 15, 16, 17]
abbrev e41_1 (v2 v4 v5 v10 v11 v12 v13 v14 v15 v16 v17 v18 : AV) : Env := [.dead, .dead, v2, .dead, v4, v5, .dead, .dead, .dead, .dead, v10, v11, v12, v13, v14, v15, v16, v17, v18, .dead, .dead, .dead, .dead, .dead, .dead, .dead, .dead, .dead, .dead, .dead, .dead, .dead, .dead, .dead, .dead, .dead, .dead, .dead, .dead, .dead, .dead, .dead, .dead, .dead, .dead, .dead, .dead, .dead, .dead, .dead, .dead, .dead, .dead, .dead, .dead, .dead, .dead, .dead, .dead, .dead, .dead, .dead, .dead, .dead, .dead, .dead, .dead, .dead, .dead, .dead, .dead, .dead, .dead, .dead, .dead, .dead, .dead, .dead, .dead, .dead, .dead, .dead, .dead, .dead, .dead, .dead, .dead, .dead, .dead, .dead, .dead, .dead, .dead, .dead, .dead, .dead, .dead, .dead, .dead, .dead, .dead, .dead, .dead, .dead, .dead, .dead, .dead, .dead, .dead, .dead, .dead, .dead, .dead, .dead, .dead, .dead, .dead, .dead, .dead, .dead, .dead, .dead, .dead, .dead, .dead, .dead, .dead, .dead, .dead, .dead, .dead, .dead, .dead, .dead, .dead, .dead, .dead, .dead, .dead, .dead, .dead, .dead, .dead, .dead, .dead, .dead, .dead, .dead, .dead, .dead, .dead, .dead, .dead, .dead, .dead, .dead, .dead, .dead]
abbrev x41_1 (v2 v4 v10 v11 v12 v13 v14 v15 v16 v17 : AV) : Env := [.dead, .dead, v2, .dead, v4, .dead, .dead, .dead, .dead, .dead, v10, v11, v12, v13, v14, v15, v16, v17, .dead, .dead, .dead, .dead, .dead, .dead, .dead, .dead, .dead, .dead, .dead, .dead, .dead, .dead, .dead, .dead, .dead, .dead, .dead, .dead, .dead, .dead, .dead, .dead, .dead, .dead, .dead, .dead, .dead, .dead, .dead, .dead, .dead, .dead, .dead, .dead, .dead, .dead, .dead, .dead, .dead, .dead, .dead, .dead, .dead, .dead, .dead, .dead, .dead, .dead, .dead, .dead, .dead, .dead, .dead, .dead, .dead, .dead, .dead, .dead, .dead, .dead, .dead, .dead, .dead, .dead, .dead, .dead, .dead, .dead, .dead, .dead, .dead, .dead, .dead, .dead, .dead, .dead, .dead, .dead, .dead, .dead, .dead, .dead, .dead, .dead, .dead, .dead, .dead, .dead, .dead, .dead, .dead, .dead, .dead, .dead, .dead, .dead, .dead, .dead, .dead, .dead, .dead, .dead, .dead, .dead, .dead, .dead, .dead, .dead, .dead, .dead, .dead, .dead, .dead, .dead, .dead, .dead, .dead, .dead, .dead, .dead, .dead, .dead, .dead, .dead, .dead, .dead, .dead, .dead, .dead, .dead, .dead, .dead, .dead, .dead, .dead, .dead, .dead, .dead]
def s41_b1 (g2 n57 n58 n59 : Nat) : SCode :=
  .seq (
    .seq (
      .region [
        ⟨some 80, none, [], .p (.mv (.t 18))⟩,
        ⟨some 81, none, [], .p (.bin .lss (.t 80) (.c (.int .i64 64)))⟩]) (
    .cond (.t 81) (
      .skip) (
      .exit 2))) (
  .seq (
    .block 3 (
      .seq (
        .region [
          ⟨some 84, none, [], .p (.mv (.t 14))⟩,
          ⟨some 85, none, [], .call 76004 4 true (.f n57) [.t 84, .c (.int .i64 6), .c (.int .i64 11), .c (.int .i64 25)]⟩,
          ⟨some 19, none, [], .p (.mv (.t 85))⟩]) (
      .seq (
        .region [
          ⟨some 86, none, [], .p (.mv (.t 10))⟩,
          ⟨some 87, none, [], .call 80004 4 true (.f n57) [.t 86, .c (.int .i64 2), .c (.int .i64 13), .c (.int .i64 22)]⟩,
          ⟨some 20, none, [], .p (.mv (.t 87))⟩]) (
      .seq (
        .region [
          ⟨some 88, none, [], .p (.mv (.t 14))⟩,
          ⟨some 89, none, [], .p (.mv (.t 15))⟩,
          ⟨some 90, none, [], .p (.mv (.t 16))⟩,
          ⟨some 91, none, [], .call 84012 4 true (.f n58) [.t 88, .t 89, .t 90]⟩,
          ⟨some 21, none, [], .p (.mv (.t 91))⟩]) (
      .seq (
        .region [
          ⟨some 92, none, [], .p (.mv (.t 10))⟩,
          ⟨some 93, none, [], .p (.mv (.t 11))⟩,
          ⟨some 94, none, [], .p (.mv (.t 12))⟩,
          ⟨some 95, none, [], .call 88012 4 true (.f n59) [.t 92, .t 93, .t 94]⟩,
          ⟨some 22, none, [], .p (.mv (.t 95))⟩]) (
      .seq (
        .region [
          ⟨some 96, none, [], .p (.mv (.t 17))⟩,
          ⟨some 97, none, [], .p (.mv (.t 19))⟩,
          ⟨some 98, none, [], .p (.bin .add (.t 96) (.t 97))⟩,
          ⟨some 99, none, [], .p (.mv (.t 21))⟩,
          ⟨some 100, none, [], .p (.bin .add (.t 98) (.t 99))⟩,
          ⟨some 101, none, [], .p (.mv (.t 18))⟩,
          ⟨some 102, none, [], .p (.iaddrA 64 1 (.g g2 64) (.t 101))⟩,
          ⟨some 103, none, [], .r (.load1 (.t 102))⟩,
          ⟨some 104, none, [], .p (.bin .add (.t 100) (.t 103))⟩,
          ⟨some 105, none, [], .p (.mv (.t 5))⟩,
          ⟨some 106, none, [], .p (.mv (.t 18))⟩,
          ⟨some 107, none, [], .p (.iaddrS 1 (.t 105) (.t 106))⟩,
          ⟨some 108, none, [], .r (.load1 (.t 107))⟩,
          ⟨some 109, none, [], .p (.bin .add (.t 104) (.t 108))⟩,
          ⟨some 23, none, [], .p (.mv (.t 109))⟩]) (
      .seq (
        .region [
          ⟨some 110, none, [], .p (.mv (.t 20))⟩,
          ⟨some 111, none, [], .p (.mv (.t 22))⟩,
          ⟨some 112, none, [], .p (.bin .add (.t 110) (.t 111))⟩,
          ⟨some 24, none, [], .p (.mv (.t 112))⟩]) (
      .seq (
        .region [
          ⟨some 113, none, [], .p (.mv (.t 16))⟩,
          ⟨some 17, none, [], .p (.mv (.t 113))⟩]) (
      .seq (
        .region [
          ⟨some 114, none, [], .p (.mv (.t 15))⟩,
          ⟨some 16, none, [], .p (.mv (.t 114))⟩]) (
      .seq (
        .region [
          ⟨some 115, none, [], .p (.mv (.t 14))⟩,
          ⟨some 15, none, [], .p (.mv (.t 115))⟩]) (
      .seq (
        .region [
          ⟨some 116, none, [], .p (.mv (.t 13))⟩,
          ⟨some 117, none, [], .p (.mv (.t 23))⟩,
          ⟨some 118, none, [], .p (.bin .add (.t 116) (.t 117))⟩,
          ⟨some 14, none, [], .p (.mv (.t 118))⟩]) (
      .seq (
        .region [
          ⟨some 119, none, [], .p (.mv (.t 12))⟩,
          ⟨some 13, none, [], .p (.mv (.t 119))⟩]) (
      .seq (
        .region [
          ⟨some 120, none, [], .p (.mv (.t 11))⟩,
          ⟨some 12, none, [], .p (.mv (.t 120))⟩]) (
      .seq (
        .region [
          ⟨some 121, none, [], .p (.mv (.t 10))⟩,
          ⟨some 11, none, [], .p (.mv (.t 121))⟩]) (
      .region [
        ⟨some 122, none, [], .p (.mv (.t 23))⟩,
        ⟨some 123, none, [], .p (.mv (.t 24))⟩,
        ⟨some 124, none, [], .p (.bin .add (.t 122) (.t 123))⟩,
        ⟨some 10, none, [], .p (.mv (.t 124))⟩]))))))))))))))) (
  .region [
    ⟨some 82, none, [], .p (.mv (.t 18))⟩,
    ⟨some 83, none, [], .p (.bin .add (.t 82) (.c (.int .i64 1)))⟩,
    ⟨some 18, none, [], .p (.mv (.t 83))⟩]))

abbrev k41_0 : List Nat := [2, 4, 5, 7]
abbrev a41_0 : List Nat := [2, 4, 5]
abbrev e41_0 (v2 v4 v5 v7 : AV) : Env := [.dead, .dead, v2, .dead, v4, v5, .dead, v7, .dead, .dead, .dead, .dead, .dead, .dead, .dead, .dead, .dead, .dead, .dead, .dead, .dead, .dead, .dead, .dead, .dead, .dead, .dead, .dead, .dead, .dead, .dead, .dead, .dead, .dead, .dead, .dead, .dead, .dead, .dead, .dead, .dead, .dead, .dead, .dead, .dead, .dead, .dead, .dead, .dead, .dead, .dead, .dead, .dead, .dead, .dead, .dead, .dead, .dead, .dead, .dead, .dead, .dead, .dead, .dead, .dead, .dead, .dead, .dead, .dead, .dead, .dead, .dead, .dead, .dead, .dead, .dead, .dead, .dead, .dead, .dead, .dead, .dead, .dead, .dead, .dead, .dead, .dead, .dead, .dead, .dead, .dead, .dead, .dead, .dead, .dead, .dead, .dead, .dead, .dead, .dead, .dead, .dead, .dead, .dead, .dead, .dead, .dead, .dead, .dead, .dead, .dead, .dead, .dead, .dead, .dead, .dead, .dead, .dead, .dead, .dead, .dead, .dead, .dead, .dead, .dead, .dead, .dead, .dead, .dead, .dead, .dead, .dead, .dead, .dead, .dead, .dead, .dead, .dead, .dead, .dead, .dead, .dead, .dead, .dead, .dead, .dead, .dead, .dead, .dead, .dead, .dead, .dead, .dead, .dead, .dead, .dead, .dead, .dead]
abbrev x41_0 (v2 v4 v5 : AV) : Env := [.dead, .dead, v2, .dead, v4, v5, .dead, .dead, .dead, .dead, .dead, .dead, .dead, .dead, .dead, .dead, .dead, .dead, .dead, .dead, .dead, .dead, .dead, .dead, .dead, .dead, .dead, .dead, .dead, .dead, .dead, .dead, .dead, .dead, .dead, .dead, .dead, .dead, .dead, .dead, .dead, .dead, .dead, .dead, .dead, .dead, .dead, .dead, .dead, .dead, .dead, .dead, .dead, .dead, .dead, .dead, .dead, .dead, .dead, .dead, .dead, .dead, .dead, .dead, .dead, .dead, .dead, .dead, .dead, .dead, .dead, .dead, .dead, .dead, .dead, .dead, .dead, .dead, .dead, .dead, .dead, .dead, .dead, .dead, .dead, .dead, .dead, .dead, .dead, .dead, .dead, .dead, .dead, .dead, .dead, .dead, .dead, .dead, .dead, .dead, .dead, .dead, .dead, .dead, .dead, .dead, .dead, .dead, .dead, .dead, .dead, .dead, .dead, .dead, .dead, .dead, .dead, .dead, .dead, .dead, .dead, .dead, .dead, .dead, .dead, .dead, .dead, .dead, .dead, .dead, .dead, .dead, .dead, .dead, .dead, .dead, .dead, .dead, .dead, .dead, .dead, .dead, .dead, .dead, .dead, .dead, .dead, .dead, .dead, .dead, .dead, .dead, .dead, .dead, .dead, .dead, .dead, .dead]
def s41_b0 (n56 : Nat) : SCode :=
  .seq (
    .seq (
      .region [
        ⟨some 30, none, [], .p (.mv (.t 7))⟩,
        ⟨some 31, none, [], .p (.bin .lss (.t 30) (.c (.int .i64 64)))⟩]) (
    .cond (.t 31) (
      .skip) (
      .exit 0))) (
  .seq (
    .block 1 (
      .seq (
        .region [
          ⟨some 34, none, [], .p (.mv (.t 5))⟩,
          ⟨some 35, none, [], .p (.mv (.t 7))⟩,
          ⟨some 36, none, [], .p (.bin .sub (.t 35) (.c (.int .i64 15)))⟩,
          ⟨some 37, none, [], .p (.iaddrS 1 (.t 34) (.t 36))⟩,
          ⟨some 38, none, [], .r (.load1 (.t 37))⟩,
          ⟨some 39, none, [], .call 20020 4 true (.f n56) [.t 38, .c (.int .i64 7), .c (.int .i64 18), .c (u32 8#32)]⟩,
          ⟨some 8, none, [], .p (.mv (.t 39))⟩]) (
      .seq (
        .region [
          ⟨some 40, none, [], .p (.mv (.t 5))⟩,
          ⟨some 41, none, [], .p (.mv (.t 7))⟩,
          ⟨some 42, none, [], .p (.bin .sub (.t 41) (.c (.int .i64 2)))⟩,
          ⟨some 43, none, [], .p (.iaddrS 1 (.t 40) (.t 42))⟩,
          ⟨some 44, none, [], .r (.load1 (.t 43))⟩,
          ⟨some 45, none, [], .call 24020 4 true (.f n56) [.t 44, .c (.int .i64 17), .c (.int .i64 19), .c (u32 1024#32)]⟩,
          ⟨some 9, none, [], .p (.mv (.t 45))⟩]) (
      .region [
        ⟨some 46, none, [], .p (.mv (.t 5))⟩,
        ⟨some 47, none, [], .p (.mv (.t 9))⟩,
        ⟨some 48, none, [], .p (.mv (.t 5))⟩,
        ⟨some 49, none, [], .p (.mv (.t 7))⟩,
        ⟨some 50, none, [], .p (.bin .sub (.t 49) (.c (.int .i64 7)))⟩,
        ⟨some 51, none, [], .p (.iaddrS 1 (.t 48) (.t 50))⟩,
        ⟨some 52, none, [], .r (.load1 (.t 51))⟩,
        ⟨some 53, none, [], .p (.bin .add (.t 47) (.t 52))⟩,
        ⟨some 54, none, [], .p (.mv (.t 8))⟩,
        ⟨some 55, none, [], .p (.bin .add (.t 53) (.t 54))⟩,
        ⟨some 56, none, [], .p (.mv (.t 5))⟩,
        ⟨some 57, none, [], .p (.mv (.t 7))⟩,
        ⟨some 58, none, [], .p (.bin .sub (.t 57) (.c (.int .i64 16)))⟩,
        ⟨some 59, none, [], .p (.iaddrS 1 (.t 56) (.t 58))⟩,
        ⟨some 60, none, [], .r (.load1 (.t 59))⟩,
        ⟨some 61, none, [], .p (.bin .add (.t 55) (.t 60))⟩,
        ⟨some 62, none, [], .a 28064 (.buildS 1 1 [u32 0#32] [(0, 1, .t 61)])⟩,
        ⟨some 63, none, [], .w (.append 28068 1 4 (.t 46) (.t 62))⟩,
        ⟨some 5, none, [], .p (.mv (.t 63))⟩])))) (
  .region [
    ⟨some 32, none, [], .p (.mv (.t 7))⟩,
    ⟨some 33, none, [], .p (.bin .add (.t 32) (.c (.int .i64 1)))⟩,
    ⟨some 7, none, [], .p (.mv (.t 33))⟩]))

def s41 (g2 n55 n56 n57 n58 n59 : Nat) : SFunc := ⟨
  .seq (
    .region [
      ⟨some 2, none, [], .a 0 (.box (.t 0))⟩,
      ⟨some 4, none, [], .a 4 (.alloc [u32 0#32, u32 0#32, u32 0#32, u32 0#32, u32 0#32, u32 0#32, u32 0#32, u32 0#32])⟩]) (
  .seq (
    .region [
      ⟨some 26, none, [], .p (.mv (.t 1))⟩,
      ⟨some 27, none, [], .call 4004 4 true (.f n55) [.t 26, .c (.bool true)]⟩,
      ⟨some 25, none, [], .p (.mv (.t 27))⟩,
      ⟨some 28, none, [], .p (.extract (.t 25) 0)⟩,
      ⟨some 29, none, [], .p (.extract (.t 25) 1)⟩,
      ⟨some 5, none, [], .p (.mv (.t 28))⟩,
      ⟨some 6, none, [], .p (.mv (.t 29))⟩]) (
  .seq (
    .seq (
      .region [
        ⟨some 7, none, [], .p (.mv (.c (.int .i64 16)))⟩]) (
    .block 0 (
      .loop k41_0 a41_0 (s41_b0 n56)))) (
  .seq (
    .region [
      ⟨some 64, none, [], .p (.iaddrA 8 1 (.t 2) (.c (.int .i64 0)))⟩,
      ⟨some 65, none, [], .r (.load1 (.t 64))⟩,
      ⟨some 10, none, [], .p (.mv (.t 65))⟩]) (
  .seq (
    .region [
      ⟨some 66, none, [], .p (.iaddrA 8 1 (.t 2) (.c (.int .i64 1)))⟩,
      ⟨some 67, none, [], .r (.load1 (.t 66))⟩,
      ⟨some 11, none, [], .p (.mv (.t 67))⟩]) (
  .seq (
    .region [
      ⟨some 68, none, [], .p (.iaddrA 8 1 (.t 2) (.c (.int .i64 2)))⟩,
      ⟨some 69, none, [], .r (.load1 (.t 68))⟩,
      ⟨some 12, none, [], .p (.mv (.t 69))⟩]) (
  .seq (
    .region [
      ⟨some 70, none, [], .p (.iaddrA 8 1 (.t 2) (.c (.int .i64 3)))⟩,
      ⟨some 71, none, [], .r (.load1 (.t 70))⟩,
      ⟨some 13, none, [], .p (.mv (.t 71))⟩]) (
  .seq (
    .region [
      ⟨some 72, none, [], .p (.iaddrA 8 1 (.t 2) (.c (.int .i64 4)))⟩,
      ⟨some 73, none, [], .r (.load1 (.t 72))⟩,
      ⟨some 14, none, [], .p (.mv (.t 73))⟩]) (
  .seq (
    .region [
      ⟨some 74, none, [], .p (.iaddrA 8 1 (.t 2) (.c (.int .i64 5)))⟩,
      ⟨some 75, none, [], .r (.load1 (.t 74))⟩,
      ⟨some 15, none, [], .p (.mv (.t 75))⟩]) (
  .seq (
    .region [
      ⟨some 76, none, [], .p (.iaddrA 8 1 (.t 2) (.c (.int .i64 6)))⟩,
      ⟨some 77, none, [], .r (.load1 (.t 76))⟩,
      ⟨some 16, none, [], .p (.mv (.t 77))⟩]) (
  .seq (
    .region [
      ⟨some 78, none, [], .p (.iaddrA 8 1 (.t 2) (.c (.int .i64 7)))⟩,
      ⟨some 79, none, [], .r (.load1 (.t 78))⟩,
      ⟨some 17, none, [], .p (.mv (.t 79))⟩]) (
  .seq (
    .seq (
      .region [
        ⟨some 18, none, [], .p (.mv (.c (.int .i64 0)))⟩]) (
    .block 2 (
      .loop k41_1 a41_1 (s41_b1 g2 n57 n58 n59)))) (
  .seq (
    .region [
      ⟨some 125, none, [], .p (.iaddrA 8 1 (.t 2) (.c (.int .i64 0)))⟩,
      ⟨some 126, none, [], .r (.load1 (.t 125))⟩,
      ⟨some 127, none, [], .p (.mv (.t 10))⟩,
      ⟨some 128, none, [], .p (.bin .add (.t 126) (.t 127))⟩,
      ⟨some 129, none, [], .p (.iaddrA 8 1 (.t 2) (.c (.int .i64 1)))⟩,
      ⟨some 130, none, [], .r (.load1 (.t 129))⟩,
      ⟨some 131, none, [], .p (.mv (.t 11))⟩,
      ⟨some 132, none, [], .p (.bin .add (.t 130) (.t 131))⟩,
      ⟨some 133, none, [], .p (.iaddrA 8 1 (.t 2) (.c (.int .i64 2)))⟩,
      ⟨some 134, none, [], .r (.load1 (.t 133))⟩,
      ⟨some 135, none, [], .p (.mv (.t 12))⟩,
      ⟨some 136, none, [], .p (.bin .add (.t 134) (.t 135))⟩,
      ⟨some 137, none, [], .p (.iaddrA 8 1 (.t 2) (.c (.int .i64 3)))⟩,
      ⟨some 138, none, [], .r (.load1 (.t 137))⟩,
      ⟨some 139, none, [], .p (.mv (.t 13))⟩,
      ⟨some 140, none, [], .p (.bin .add (.t 138) (.t 139))⟩,
      ⟨some 141, none, [], .p (.iaddrA 8 1 (.t 2) (.c (.int .i64 4)))⟩,
      ⟨some 142, none, [], .r (.load1 (.t 141))⟩,
      ⟨some 143, none, [], .p (.mv (.t 14))⟩,
      ⟨some 144, none, [], .p (.bin .add (.t 142) (.t 143))⟩,
      ⟨some 145, none, [], .p (.iaddrA 8 1 (.t 2) (.c (.int .i64 5)))⟩,
      ⟨some 146, none, [], .r (.load1 (.t 145))⟩,
      ⟨some 147, none, [], .p (.mv (.t 15))⟩,
      ⟨some 148, none, [], .p (.bin .add (.t 146) (.t 147))⟩,
      ⟨some 149, none, [], .p (.iaddrA 8 1 (.t 2) (.c (.int .i64 6)))⟩,
      ⟨some 150, none, [], .r (.load1 (.t 149))⟩,
      ⟨some 151, none, [], .p (.mv (.t 16))⟩,
      ⟨some 152, none, [], .p (.bin .add (.t 150) (.t 151))⟩,
      ⟨some 153, none, [], .p (.iaddrA 8 1 (.t 2) (.c (.int .i64 7)))⟩,
      ⟨some 154, none, [], .r (.load1 (.t 153))⟩,
      ⟨some 155, none, [], .p (.mv (.t 17))⟩,
      ⟨some 156, none, [], .p (.bin .add (.t 154) (.t 155))⟩,
      ⟨some 157, none, [], .p (.build [u32 0#32, u32 0#32, u32 0#32, u32 0#32, u32 0#32, u32 0#32, u32 0#32, u32 0#32] [(0, 1, .t 128), (1, 1, .t 132), (2, 1, .t 136), (3, 1, .t 140), (4, 1, .t 144), (5, 1, .t 148), (6, 1, .t 152), (7, 1, .t 156)])⟩,
      ⟨none, none, [], .w (.storeN 8 (.t 4) (.t 157))⟩]) (
  .ret))))))))))))),
  158, [Sum.inr (4, 8, true)]⟩

-- 40 calls [42]
abbrev k40_0 : List Nat := [0, 3]
abbrev a40_0 : List Nat := [0, 3]
abbrev e40_0 (v0 v3 : AV) : Env := [v0, .dead, .dead, v3, .dead, .dead, .dead, .dead, .dead, .dead, .dead, .dead, .dead, .dead, .dead, .dead, .dead, .dead, .dead, .dead, .dead, .dead, .dead, .dead, .dead, .dead, .dead, .dead, .dead, .dead, .dead]
abbrev x40_0 (v0 v3 : AV) : Env := [v0, .dead, .dead, v3, .dead, .dead, .dead, .dead, .dead, .dead, .dead, .dead, .dead, .dead, .dead, .dead, .dead, .dead, .dead, .dead, .dead, .dead, .dead, .dead, .dead, .dead, .dead, .dead, .dead, .dead, .dead]
def s40_b0 : SCode :=
  .seq (
    .seq (
      .region [
        ⟨some 9, none, [], .p (.mv (.t 3))⟩,
        ⟨some 10, none, [], .p (.lenV true (.t 9))⟩,
        ⟨some 11, none, [], .p (.bin .rem (.t 10) (.c (.int .i64 64)))⟩,
        ⟨some 12, none, [], .p (.bin .neq (.t 11) (.c (.int .i64 56)))⟩]) (
    .cond (.t 12) (
      .skip) (
      .exit 0))) (
  .block 1 (
    .region [
      ⟨some 13, none, [], .p (.mv (.t 3))⟩,
      ⟨some 14, none, [], .a 12004 (.buildS 1 1 [byteAV 0] [(0, 1, .c (byteAV 0))])⟩,
      ⟨some 15, none, [], .w (.append 12008 1 1 (.t 13) (.t 14))⟩,
      ⟨some 3, none, [], .p (.mv (.t 15))⟩]))

def s40 (n42 : Nat) : SFunc := ⟨
  .seq (
    .region [
      ⟨some 2, none, [], .p (.mv (.c (.str [])))⟩]) (
  .seq (
    .region [
      ⟨some 6, none, [], .p (.mv (.t 0))⟩,
      ⟨some 7, none, [], .p (.bin .add (.t 6) (.c (.str [128])))⟩,
      ⟨some 8, none, [], .a 4008 (.toBytes (.t 7))⟩,
      ⟨some 3, none, [], .p (.mv (.t 8))⟩]) (
  .seq (
    .block 0 (
      .loop k40_0 a40_0 s40_b0)) (
  .seq (
    .region [
      ⟨some 16, none, [], .p (.mv (.t 0))⟩,
      ⟨some 17, none, [], .p (.lenV false (.t 16))⟩,
      ⟨some 18, none, [], .p (.bin .mul (.c (.int .i64 8)) (.t 17))⟩,
      ⟨some 4, none, [], .p (.mv (.t 18))⟩]) (
  .seq (
    .region [
      ⟨some 19, none, [], .p (.mv (.t 4))⟩,
      ⟨some 20, none, [], .p (.bin .quo (.t 19) (.c (.int .i64 4294967296)))⟩,
      ⟨some 21, none, [], .p (.conv .u32 (.t 20))⟩,
      ⟨some 22, none, [], .p (.mv (.t 4))⟩,
      ⟨some 23, none, [], .p (.bin .rem (.t 22) (.c (.int .i64 4294967296)))⟩,
      ⟨some 24, none, [], .p (.conv .u32 (.t 23))⟩,
      ⟨some 25, none, [], .a 20024 (.buildS 1 2 [u32 0#32] [(0, 1, .t 21), (1, 1, .t 24)])⟩,
      ⟨some 26, none, [], .call 20028 4 true (.f n42) [.t 25, .c (.bool true)]⟩,
      ⟨some 5, none, [], .p (.mv (.t 26))⟩]) (
  .seq (
    .region [
      ⟨some 27, none, [], .p (.mv (.t 3))⟩,
      ⟨some 28, none, [], .r (.toStr (.t 27))⟩,
      ⟨some 29, none, [], .p (.mv (.t 5))⟩,
      ⟨some 30, none, [], .p (.bin .add (.t 28) (.t 29))⟩,
      ⟨some 2, none, [], .p (.mv (.t 30))⟩]) (
  .ret)))))),
  31, [Sum.inl 2]⟩

-- 17 calls [40, 41, 42]
abbrev k17_1 : List Nat := [4, 6, 7]
abbrev a17_1 : List Nat := [6]
abbrev e17_1 (v4 v6 v7 : AV) : Env := [.dead, .dead, .dead, .dead, v4, .dead, v6, v7, .dead, .dead, .dead, .dead, .dead, .dead, .dead, .dead, .dead, .dead, .dead, .dead, .dead, .dead, .dead, .dead, .dead, .dead, .dead, .dead, .dead, .dead, .dead, .dead, .dead, .dead, .dead, .dead]
abbrev x17_1 (v6 : AV) : Env := [.dead, .dead, .dead, .dead, .dead, .dead, v6, .dead, .dead, .dead, .dead, .dead, .dead, .dead, .dead, .dead, .dead, .dead, .dead, .dead, .dead, .dead, .dead, .dead, .dead, .dead, .dead, .dead, .dead, .dead, .dead, .dead, .dead, .dead, .dead, .dead]
def s17_b1 : SCode :=
  .seq (
    .seq (
      .region [
        ⟨some 24, none, [], .p (.mv (.t 7))⟩,
        ⟨some 25, none, [], .p (.bin .lss (.t 24) (.c (.int .i64 8)))⟩]) (
    .cond (.t 25) (
      .skip) (
      .exit 2))) (
  .seq (
    .block 3 (
      .region [
        ⟨some 28, none, [], .p (.mv (.t 6))⟩,
        ⟨some 29, none, [], .p (.mv (.t 7))⟩,
        ⟨some 30, none, [], .p (.iaddrA 8 1 (.t 4) (.t 29))⟩,
        ⟨some 31, none, [], .r (.load1 (.t 30))⟩,
        ⟨some 32, none, [], .a 44016 (.buildS 1 1 [u32 0#32] [(0, 1, .t 31)])⟩,
        ⟨some 33, none, [], .w (.append 44020 1 4 (.t 28) (.t 32))⟩,
        ⟨some 6, none, [], .p (.mv (.t 33))⟩])) (
  .region [
    ⟨some 26, none, [], .p (.mv (.t 7))⟩,
    ⟨some 27, none, [], .p (.bin .add (.t 26) (.c (.int .i64 1)))⟩,
    ⟨some 7, none, [], .p (.mv (.t 27))⟩]))

abbrev k17_0 : List Nat := [3, 4, 5]
abbrev a17_0 : List Nat := [4]
abbrev e17_0 (v3 v4 v5 : AV) : Env := [.dead, .dead, .dead, v3, v4, v5, .dead, .dead, .dead, .dead, .dead, .dead, .dead, .dead, .dead, .dead, .dead, .dead, .dead, .dead, .dead, .dead, .dead, .dead, .dead, .dead, .dead, .dead, .dead, .dead, .dead, .dead, .dead, .dead, .dead, .dead]
abbrev x17_0 (v4 : AV) : Env := [.dead, .dead, .dead, .dead, v4, .dead, .dead, .dead, .dead, .dead, .dead, .dead, .dead, .dead, .dead, .dead, .dead, .dead, .dead, .dead, .dead, .dead, .dead, .dead, .dead, .dead, .dead, .dead, .dead, .dead, .dead, .dead, .dead, .dead, .dead, .dead]
def s17_b0 (n41 : Nat) : SCode :=
  .seq (
    .seq (
      .region [
        ⟨some 11, none, [], .p (.mv (.t 5))⟩,
        ⟨some 12, none, [], .p (.mv (.t 3))⟩,
        ⟨some 13, none, [], .p (.lenV false (.t 12))⟩,
        ⟨some 14, none, [], .p (.bin .lss (.t 11) (.t 13))⟩]) (
    .cond (.t 14) (
      .skip) (
      .exit 0))) (
  .seq (
    .block 1 (
      .region [
        ⟨some 17, none, [], .r (.loadN 8 (.t 4))⟩,
        ⟨some 18, none, [], .p (.mv (.t 3))⟩,
        ⟨some 19, none, [], .p (.mv (.t 5))⟩,
        ⟨some 20, none, [], .p (.mv (.t 5))⟩,
        ⟨some 21, none, [], .p (.bin .add (.t 20) (.c (.int .i64 64)))⟩,
        ⟨some 22, none, [], .p (.slcStr (.t 18) (some (.t 19)) (some (.t 21)))⟩,
        ⟨some 23, none, [], .call 24024 4 true (.f n41) [.t 17, .t 22]⟩,
        ⟨none, none, [], .w (.storeN 8 (.t 4) (.t 23))⟩])) (
  .region [
    ⟨some 15, none, [], .p (.mv (.t 5))⟩,
    ⟨some 16, none, [], .p (.bin .add (.t 15) (.c (.int .i64 64)))⟩,
    ⟨some 5, none, [], .p (.mv (.t 16))⟩]))

def s17 (g0 n40 n41 n42 : Nat) : SFunc := ⟨
  .seq (
    .region [
      ⟨some 2, none, [], .p (.mv (.c (.str [])))⟩]) (
  .seq (
    .region [
      ⟨some 8, none, [], .p (.mv (.t 0))⟩,
      ⟨some 9, none, [], .call 4004 4 true (.f n40) [.t 8]⟩,
      ⟨some 3, none, [], .p (.mv (.t 9))⟩]) (
  .seq (
    .region [
      ⟨some 10, none, [], .r (.loadN 8 (.g g0 8))⟩,
      ⟨some 4, none, [], .a 8004 (.alloc [u32 0#32, u32 0#32, u32 0#32, u32 0#32, u32 0#32, u32 0#32, u32 0#32, u32 0#32])⟩,
      ⟨none, none, [], .w (.storeN 8 (.t 4) (.t 10))⟩]) (
  .seq (
    .seq (
      .region [
        ⟨some 5, none, [], .p (.mv (.c (.int .i64 0)))⟩]) (
    .block 0 (
      .loop k17_0 a17_0 (s17_b0 n41)))) (
  .seq (
    .region [
      ⟨some 6, none, [], .p (.mv (.c (.slice none 0 0)))⟩]) (
  .seq (
    .seq (
      .region [
        ⟨some 7, none, [], .p (.mv (.c (.int .i64 0)))⟩]) (
    .block 2 (
      .loop k17_1 a17_1 s17_b1))) (
  .seq (
    .region [
      ⟨some 34, none, [], .p (.mv (.t 6))⟩,
      ⟨some 35, none, [], .call 48004 4 true (.f n42) [.t 34, .c (.bool true)]⟩,
      ⟨some 2, none, [], .p (.mv (.t 35))⟩]) (
  .ret))))))),
  36, [Sum.inl 2]⟩

-- 19 calls [17]
def s19 (n17 : Nat) : SFunc := ⟨
  .seq (
    .region [
      ⟨some 4, none, [], .p (.mv (.c (.str [])))⟩]) (
  .seq (
    .region [
      ⟨some 5, none, [], .p (.mv (.t 0))⟩,
      ⟨some 6, none, [], .a 4004 (.buildS 1 1 [byteAV 0] [(0, 1, .t 5)])⟩,
      ⟨some 7, none, [], .r (.toStr (.t 6))⟩,
      ⟨some 8, none, [], .p (.mv (.t 1))⟩,
      ⟨some 9, none, [], .p (.bin .add (.t 7) (.t 8))⟩,
      ⟨some 10, none, [], .call 4020 4 true (.f n17) [.t 9]⟩,
      ⟨some 4, none, [], .p (.mv (.t 10))⟩]) (
  .ret)),
  11, [Sum.inl 4]⟩


/-! ### what lies in the program's variables -/
/-- The variables number a (the first state) and b (the constants of the rounds). -/
def Gl (k : List (BitVec 32)) (v : H8) (a b : Nat) (M : Mem) : Prop :=
  0 < M.length ∧ (∀ o, get M ⟨0, gid a, 8, o⟩ = some (.cells (v.l.map u32) false true)) ∧ ∀ o, get M ⟨0, gid b, 64, o⟩ = some (.cells (k.map u32) false true)

theorem Gl.cons {k : List (BitVec 32)} {v : H8} {a b : Nat} {M : Mem} (h : Gl k v a b M) (s : Scope) : Gl k v a b (s :: M) := by
  refine ⟨by simp, fun o => ?_, fun o => ?_⟩
  · rw [get_low (by exact h.1)]; exact h.2.1 o
  · rw [get_low (by exact h.1)]; exact h.2.2 o
theorem Gl.ro {k : List (BitVec 32)} {v : H8} {a b : Nat} {M : Mem} (h : Gl k v a b M) : Gl k v a b (Det.ro M) := by
  refine ⟨by rw [ro_length]; exact h.1, fun o => ?_, fun o => ?_⟩
  · rw [get_ro, h.2.1 o]; rfl
  · rw [get_ro, h.2.2 o]; rfl
theorem ent_put_ne {M : Mem} {d id : Nat} {x : Con} {e i : Nat} (h : d < M.length) (hne : ¬ (e = d ∧ i = id)) : ent (put M d id x) e i = ent M e i := by rw [ent_put h, if_neg hne]
theorem Gl.put {k : List (BitVec 32)} {v : H8} {a b : Nat} {M : Mem} (h : Gl k v a b M) (d id : Nat) (x : Con) (hd : d < M.length) (h0 : 0 < d) : Gl k v a b (Det.put M d id x) := by
  refine ⟨by rw [put_length]; exact h.1, fun o => ?_, fun o => ?_⟩
  · rw [← h.2.1 o]; unfold get; simp only; rw [ent_put_ne hd (by omega)]
  · rw [← h.2.2 o]; unfold get; simp only; rw [ent_put_ne hd (by omega)]

section
variable {SP : SProg} {n22 n23 n24 n40 n41 n43 n44 n45 n60 n61 n71 n72 n80 n81 : Nat} {g1 g3 : Nat}

/-! ### words turned -/
theorem rot_right (x : BitVec 32) (p q : Nat) (h : p % 32 = q % 32) : W.rot x p = W.rot x q := W.rot_eq x p q h

theorem rt_ev (h61 : SP.fn n61 = some (W.s19 n72)) (h72 : SP.fn n72 = some W.s17) (k : Nat) (M : Mem) (s : Scope) (x : BitVec 32) (n : Int) (p : Nat) (hp : 32 - W.tn n = p) : callFn SP (k + 2) n61 [u32 x, .int .i64 n] (s :: M) = some (u32 (W.rot x p), [], s :: M) := by
  subst hp; exact W.right_ev h72 h61 k M s x n

/-! ### a block's words -/
def pw (s : List UInt8) (i : Nat) : List (BitVec 32) := sch s i ++ List.replicate (48 - i) 0#32
theorem pw_len (s : List UInt8) (i : Nat) (h : i ≤ 48) : (pw s i).length = 64 := by rw [pw, List.length_append, sch_len, List.length_replicate]; omega
theorem pw_nth (s : List UInt8) (i k : Nat) (h : k < 16 + i) : nth (pw s i) k = nth (sch s i) k := by
  simp only [nth, List.getD, pw]
  rw [List.getElem?_append_left (by rw [sch_len]; exact h)]
theorem pw_set (s : List UInt8) (i : Nat) (h : i < 48) : (pw s i).set (16 + i) (nw (sch s i) (16 + i)) = pw s (i + 1) := by
  unfold pw
  rw [List.set_append_right _ _ (by rw [sch_len]; omega), sch_len, Nat.sub_self, sch, List.append_assoc]
  congr 1
  rw [show 48 - i = (48 - (i + 1)) + 1 by omega, List.replicate_succ]
  rfl
theorem pw_end (s : List UInt8) : pw s 48 = sch s 48 := by simp [pw]

@[simp] theorem expL_u32 (d : Nat) (s : Scope) (cs : List Con) (l : List (BitVec 32)) : expL d s cs (l.map u32) = some (l.map u32, s, cs) := expL_map u32 (fun d s cs x => rfl) d s cs l
@[simp] theorem takeVL_u32 (d n : Nat) : ∀ l : List (BitVec 32), takeVL d n (l.map u32) = l.map u32
  | [] => rfl
  | x :: l => by rw [List.map_cons, takeVL, takeVL_u32 d n l]; rfl

theorem cell_at {l : List AV} {i : Nat} {x : AV} (h : l[i]? = some x) : ∀ hh : i < l.length, l[i] = x := fun hh => by
  rw [List.getElem?_eq_getElem hh] at h; exact Option.some.inj h

theorem l60_0 (h61 : SP.fn n61 = some (W.s19 n72)) (h72 : SP.fn n72 = some W.s17) (k : Nat) (M : Mem) (s : List UInt8) (z : List AV) (hz : z.length = 64) (j : Nat) : ∀ (i t n : Nat), i + j = 48 → t = 16 + i → j < n →
    fgt a60_0 (rnd0 (some (e60_0 (.ptr (some ⟨M.length, 0, 64, 0⟩)) (.ptr (some ⟨M.length, 4000, 64, 0⟩)) (.int .i64 t), mk [(0, .cells z true true), (4000, .cells ((pw s i).map u32) true true)] :: M)) k60_0 (callFn SP (k + 2)) (s60_b0 n61) n) =
      some (.exit 0, x60_0 (.ptr (some ⟨M.length, 0, 64, 0⟩)) (.ptr (some ⟨M.length, 4000, 64, 0⟩)), mk [(0, .cells z true true), (4000, .cells ((sch s 48).map u32) true true)] :: M) := by
  induction j with
  | zero =>
    intro i t n h ht hn
    obtain rfl : i = 48 := by omega
    obtain rfl : t = 64 := by omega
    obtain ⟨n, rfl⟩ : ∃ m, n = m + 1 := ⟨n - 1, by omega⟩
    have hl := sch_len s 48
    rw [pw_end]
    generalize sch s 48 = S at *
    rw [rnd0_some]
    conv => lhs; arg 2; arg 1; rw [s60_b0]
    simp (disch := omega) [hz, hl]
  | succ j ih0 =>
    intro i t n h ht hn
    obtain ⟨n, rfl⟩ : ∃ m, n = m + 1 := ⟨n - 1, by omega⟩
    have hi : i < 48 := by omega
    have ih := ih0 (i + 1) (t + 1) n (by omega) (by omega) (by omega)
    have hr := fun k M s x n p hp => rt_ev h61 h72 k M s x n p hp
    have r7 := fun k M s x => hr k M s x 7 25 rfl
    have r18 := fun k M s x => hr k M s x 18 14 rfl
    have r17 := fun k M s x => hr k M s x 17 15 rfl
    have r19 := fun k M s x => hr k M s x 19 13 rfl
    have hl := pw_len s i (by omega)
    have hset : ((pw s i).map u32).set (16 + i) (u32 (nw (sch s i) (16 + i))) = (pw s (i + 1)).map u32 := by rw [← pw_set s i hi, List.map_set]
    have gt : ∀ k, k < 16 + i → ((pw s i).map u32)[k]? = some (u32 (nth (sch s i) k)) := fun k hk => by
      rw [List.getElem?_map, getElem?_nth (pw s i) k (by omega), pw_nth s i k hk]; rfl
    rw [← ht] at hset gt
    obtain ⟨u1, hu1⟩ : ∃ u, t - 15 = u := ⟨_, rfl⟩
    obtain ⟨u2, hu2⟩ : ∃ u, t - 2 = u := ⟨_, rfl⟩
    obtain ⟨u3, hu3⟩ : ∃ u, t - 16 = u := ⟨_, rfl⟩
    obtain ⟨u4, hu4⟩ : ∃ u, t - 7 = u := ⟨_, rfl⟩
    have g1 := gt u1 (by omega)
    have g2 := gt u2 (by omega)
    have g3 := gt u3 (by omega)
    have g4 := gt u4 (by omega)
    rw [nw, hu1, hu2, hu3, hu4] at hset
    unfold sm at hset
    have w1 : IntKind.wrap .i64 ((t : Int) - 15) = (u1 : Int) := by rw [IntWalk.i64_in _ (by omega)]; omega
    have w2 : IntKind.wrap .i64 ((t : Int) - 2) = (u2 : Int) := by rw [IntWalk.i64_in _ (by omega)]; omega
    have w3 : IntKind.wrap .i64 ((t : Int) - 16) = (u3 : Int) := by rw [IntWalk.i64_in _ (by omega)]; omega
    have w4 : IntKind.wrap .i64 ((t : Int) - 7) = (u4 : Int) := by rw [IntWalk.i64_in _ (by omega)]; omega
    have b0 : t < 64 := by omega
    have b1 : u1 < 64 := by omega
    have b2 : u2 < 64 := by omega
    have b3 : u3 < 64 := by omega
    have b4 : u4 < 64 := by omega
    generalize nth (sch s i) u3 = x0 at *
    generalize nth (sch s i) u1 = x1 at *
    generalize nth (sch s i) u4 = x9 at *
    generalize nth (sch s i) u2 = x14 at *
    clear gt hr ih0
    generalize sch s 48 = S at *
    generalize pw s (i + 1) = P2 at *
    generalize pw s i = P1 at *
    have hl' : (P1.map u32).length = 64 := by rw [List.length_map, hl]
    generalize P1.map u32 = Q1 at *
    clear hl
    have g1 := cell_at g1
    have g2 := cell_at g2
    have g3 := cell_at g3
    have g4 := cell_at g4
    obtain ⟨Y, hY⟩ : ∃ Y, x0 + (W.rot x1 25 ^^^ W.rot x1 14 ^^^ x1 >>> 3) + x9 + (W.rot x14 15 ^^^ W.rot x14 13 ^^^ x14 >>> 10) = Y := ⟨_, rfl⟩
    rw [hY] at hset
    rw [rnd0_some]
    conv => lhs; arg 2; arg 1; rw [s60_b0]
    simp (disch := omega) [-List.map_set, -List.getElem?_map, hz, hl', w1, w2, w3, w4, b0, b1, b2, b3, b4, g1, g2, g3, g4, r7, r18, r17, r19, hset, hY, if_pos, IntWalk.i64_in]
    simpa using ih

theorem sched_ev (h60 : SP.fn n60 = some (s60 n61 n71)) (h71 : SP.fn n71 = some (W.s14 n80 n81)) (h80 : SP.fn n80 = some W.s25) (h81 : SP.fn n81 = some W.s27) (h61 : SP.fn n61 = some (W.s19 n72)) (h72 : SP.fn n72 = some W.s17) (k : Nat) (M : Mem) (s : List UInt8) (hs : s.length = 64) :
    callFn SP (k + 4) n60 [.str s] M = some (.agg ((sch s 48).map u32), [], M) := by
  have hb := fun k M => W.big_ev (SP := SP) (n14 := n71) (n25 := n80) (n27 := n81) h71 h80 h81 k M s 16 (by omega) (by omega)
  rw [show tab (W.wat true s) 16 = sch s 0 from rfl] at hb
  have h0 := sch_len s 0
  have hl := l60_0 h61 h72 (k + 1) M s (List.replicate 64 (u32 0#32)) (by simp) 48 0 16 49 rfl rfl (by omega)
  have h48 := sch_len s 48
  have tk2 : ((sch s 48).map u32).take 64 = (sch s 48).map u32 := List.take_of_length_le (by rw [List.length_map, h48]; omega)
  have hp : (pw s 0).map u32 = (sch s 0).map u32 ++ List.replicate 48 (u32 0#32) := by rw [pw, List.map_append, List.map_replicate]
  rw [hp] at hl
  generalize sch s 48 = S at *
  have h0' : ((sch s 0).map u32).length = 16 := by rw [List.length_map, h0]
  have tk : ((sch s 0).map u32).take 16 = (sch s 0).map u32 := List.take_of_length_le (by omega)
  generalize sch s 0 = S0 at *
  simp only [List.reduceReplicate] at hl
  rw [call_fn (h60.trans rfl) (by simp)]
  simp (disch := omega) [hb, h0, h0', tk, if_pos]
  rw [ev_loop 49 (by simp) hl (by omega)]
  simp (disch := omega) [h48, tk2]
end
end Go.Det.S

namespace Go.Det.S
open Go.Det

section
variable {SP : SProg} {n22 n23 n24 n40 n41 n43 n44 n45 n60 n61 n71 n72 n80 n81 : Nat} {g1 g3 : Nat}

/-- A digest's cells. -/
def hc (v : H8) (r : List UInt8) (n : Int) : List AV := v.l.map u32 ++ [.str r, .int .i64 n]

theorem l43_0 (h61 : SP.fn n61 = some (W.s19 n72)) (h72 : SP.fn n72 = some W.s17) (k : Nat) (M : Mem) (hp : AV) (hpi : AV.ids M.length hp = []) (K Wl : List (BitVec 32)) (hK : K.length = 64) (hW : Wl.length = 64) (v0 : H8) (j : Nat) : ∀ (i n : Nat), i + j = 64 → j < n →
    fgt a43_0 (rnd0 (some (e43_0 hp (.ptr (some ⟨M.length, 24, 64, 0⟩)) (.ptr (some ⟨M.length, 28, 8, 0⟩)) (.agg (K.map u32)) (.int .i64 i), mk [(24, .cells (Wl.map u32) true true), (28, .cells ((rd K Wl v0 i).l.map u32) true true)] :: M)) k43_0 (callFn SP (k + 2)) (s43_b0 n61) n) =
      some (.exit 0, x43_0 hp (.ptr (some ⟨M.length, 28, 8, 0⟩)), mk [(28, .cells ((rd K Wl v0 64).l.map u32) true true)] :: M) := by
  induction j with
  | zero =>
    intro i n h hn
    obtain rfl : i = 64 := by omega
    obtain ⟨n, rfl⟩ : ∃ m, n = m + 1 := ⟨n - 1, by omega⟩
    generalize (rd K Wl v0 64).l = V at *
    generalize Wl.map u32 = Z at *
    generalize K.map u32 = Z2 at *
    rw [rnd0_some]
    conv => lhs; arg 2; arg 1; rw [s43_b0]
    simp (disch := omega) [hpi]
  | succ j ih0 =>
    intro i n h hn
    obtain ⟨n, rfl⟩ : ∃ m, n = m + 1 := ⟨n - 1, by omega⟩
    have hi : i < 64 := by omega
    have ih := ih0 (i + 1) n (by omega) (by omega)
    have hr := fun k M s x n p hp => rt_ev h61 h72 k M s x n p hp
    have r6 := fun k M s x => hr k M s x 6 26 rfl
    have r11 := fun k M s x => hr k M s x 11 21 rfl
    have r25 := fun k M s x => hr k M s x 25 7 rfl
    have r2 := fun k M s x => hr k M s x 2 30 rfl
    have r13 := fun k M s x => hr k M s x 13 19 rfl
    have r22 := fun k M s x => hr k M s x 22 10 rfl
    clear hr ih0
    have gk : (K.map u32)[i]? = some (u32 (nth K i)) := by rw [List.getElem?_map, getElem?_nth K i (by omega)]; rfl
    have gw : (Wl.map u32)[i]? = some (u32 (nth Wl i)) := by rw [List.getElem?_map, getElem?_nth Wl i (by omega)]; rfl
    have ik : AV.idss M.length (K.map u32) = [] := by simp
    have lk : (K.map u32).length = 64 := by rw [List.length_map, hK]
    have lw : (Wl.map u32).length = 64 := by rw [List.length_map, hW]
    rw [show rd K Wl v0 (i + 1) = stp (rd K Wl v0 i) (nth K i) (nth Wl i) from rfl] at ih
    generalize (rd K Wl v0 64).l = V64 at *
    generalize rd K Wl v0 i = v at *
    obtain ⟨a, b, c, d, e, f, g, hh⟩ := v
    generalize nth K i = kk at *
    generalize nth Wl i = ww at *
    generalize K.map u32 = KC at *
    generalize Wl.map u32 = WC at *
    have gk := cell_at gk
    have gw := cell_at gw
    simp only [stp, H8.l, sg, List.map_cons, List.map_nil] at ih ⊢
    rw [rnd0_some]
    conv => lhs; arg 2; arg 1; rw [s43_b0]
    simp (disch := omega) [hi, lk, lw, gk, gw, ik, hpi, r6, r11, r25, r2, r13, r22, if_pos, IntWalk.i64_in]
    simpa using ih

/-- Words added to the first ones. -/
def ad (A B : List (BitVec 32)) (i : Nat) : List (BitVec 32) := tab (fun p => if p < i then nth A p + nth B p else nth A p) 8
theorem ad_len (A B : List (BitVec 32)) (i : Nat) : (ad A B i).length = 8 := by simp [ad]
theorem ad_zero (A B : List (BitVec 32)) (h : A.length = 8) : ad A B 0 = A := tab_eq _ _ _ h fun i hi => by simp
theorem ad_nth (A B : List (BitVec 32)) (i : Nat) (h : i < 8) : nth (ad A B i) i = nth A i := by rw [ad, nth_tab _ _ _ h, if_neg (by omega)]
theorem ad_set (A B : List (BitVec 32)) (i : Nat) (h : i < 8) : (ad A B i).set i (nth A i + nth B i) = ad A B (i + 1) := by
  refine nth_ext (by simp [ad]) fun p hp => ?_
  simp [ad] at hp
  rw [nth_set _ _ _ _ (by rw [ad_len]; omega), ad, nth_tab _ _ _ hp, ad, nth_tab _ _ _ hp]
  by_cases h1 : i = p
  · subst h1; simp
  · rw [if_neg h1]
    by_cases h2 : p < i
    · rw [if_pos h2, if_pos (by omega)]
    · rw [if_neg h2, if_neg (by omega)]
theorem ad_all (v u : H8) : ad v.l u.l 8 = (v.add u).l := rfl

theorem l43_1 (C : Det.Calls) (M : Mem) (d id : Nat) (hd : d < M.length) (A B : List (BitVec 32)) (hB : B.length = 8) (r : List UInt8) (sz : Int) (j : Nat) : ∀ (i n : Nat), i + j = 8 → j < n →
    fgt a43_1 (rnd0 (some (e43_1 (.ptr (some ⟨d, id, 10, 0⟩)) (.agg (B.map u32)) (.int .i64 i), mk [] :: put M d id (.cells ((ad A B i).map u32 ++ [AV.str r, AV.int .i64 sz]) true true))) k43_1 C s43_b1 n) =
      some (.exit 2, x43_1, mk [] :: put M d id (.cells ((ad A B 8).map u32 ++ [AV.str r, AV.int .i64 sz]) true true)) := by
  have hn1 : d ≠ M.length := by omega
  induction j with
  | zero =>
    intro i n h hn
    obtain rfl : i = 8 := by omega
    obtain ⟨n, rfl⟩ : ∃ m, n = m + 1 := ⟨n - 1, by omega⟩
    generalize (ad A B 8).map u32 ++ [AV.str r, AV.int .i64 sz] = V at *
    generalize B.map u32 = Z at *
    rw [rnd0_some]
    conv => lhs; arg 2; arg 1; rw [s43_b1]
    simp (disch := omega) [put_length]
  | succ j ih0 =>
    intro i n h hn
    obtain ⟨n, rfl⟩ : ∃ m, n = m + 1 := ⟨n - 1, by omega⟩
    have hi : i < 8 := by omega
    have ih := ih0 (i + 1) n (by omega) (by omega)
    have hl := ad_len A B i
    have hl2 := ad_len A B (i + 1)
    have gB : (B.map u32)[i]? = some (u32 (nth B i)) := by rw [List.getElem?_map, getElem?_nth B i (by omega)]; rfl
    have gA : ((ad A B i).map u32 ++ [AV.str r, AV.int .i64 sz])[i]? = some (u32 (nth A i)) := by
      rw [List.getElem?_append_left (by rw [List.length_map, hl]; omega), List.getElem?_map, getElem?_nth _ i (by omega), ad_nth A B i hi]; rfl
    have hset : ((ad A B i).map u32 ++ [AV.str r, AV.int .i64 sz]).set i (u32 (nth A i + nth B i)) = (ad A B (i + 1)).map u32 ++ [AV.str r, AV.int .i64 sz] := by
      rw [List.set_append_left _ _ (by rw [List.length_map, hl]; omega), ← List.map_set, ad_set A B i hi]
    have lB : (B.map u32).length = 8 := by rw [List.length_map, hB]
    have iB : AV.idss M.length (B.map u32) = [] := by simp
    have l1 : ((ad A B i).map u32 ++ [AV.str r, AV.int .i64 sz]).length = 10 := by simp [hl]
    have l2 : ((ad A B (i + 1)).map u32 ++ [AV.str r, AV.int .i64 sz]).length = 10 := by simp [hl2]
    generalize (ad A B 8).map u32 ++ [AV.str r, AV.int .i64 sz] = V8 at *
    generalize (ad A B (i + 1)).map u32 ++ [AV.str r, AV.int .i64 sz] = V2 at *
    generalize (ad A B i).map u32 ++ [AV.str r, AV.int .i64 sz] = V1 at *
    generalize B.map u32 = BC at *
    generalize nth A i = x at *
    generalize nth B i = y at *
    have gA := cell_at gA
    have gB := cell_at gB
    rw [rnd0_some]
    conv => lhs; arg 2; arg 1; rw [s43_b1]
    simp (disch := first | omega | (simp only [put_length]; omega)) [-List.map_set, hi, hn1, lB, iB, l1, gA, gB, hset, put_length, get_low, put_low, get_put hd, put_put, if_pos, IntWalk.i64_in]
    simpa using ih

/-- A block more. -/
theorem take_ev (h43 : SP.fn n43 = some (s43 g3 n60 n61)) (h60 : SP.fn n60 = some (s60 n61 n71)) (h71 : SP.fn n71 = some (W.s14 n80 n81)) (h80 : SP.fn n80 = some W.s25) (h81 : SP.fn n81 = some W.s27) (h61 : SP.fn n61 = some (W.s19 n72)) (h72 : SP.fn n72 = some W.s17)
    (k : Nat) (M : Mem) (K : List (BitVec 32)) (hK : K.length = 64) (v0 : H8) (hG : Gl K v0 g1 g3 M) (d id : Nat) (hd : d < M.length) (v : H8) (r : List UInt8) (sz : Int) (hg : ∀ o, get M ⟨d, id, 10, o⟩ = some (.cells (hc v r sz) true true)) (hput : put M d id (.cells (hc v r sz) true true) = M) (s : List UInt8) (hs : s.length = 64) :
    callFn SP (k + 5) n43 [.ptr (some ⟨d, id, 10, 0⟩), .str s] M = some (.undef, [], put M d id (.cells (hc (blk K v s) r sz) true true)) := by
  have hn1 : d ≠ M.length := by omega
  have hsc := fun k M => sched_ev h60 h71 h80 h81 h61 h72 k M s hs
  have l0 := l43_0 h61 h72 (k + 2) M (.ptr (some ⟨d, id, 10, 0⟩)) (by simp [hn1]) K (sch s 48) hK (sch_len s 48) v 64 0 65 rfl (by omega)
  rw [show rd K (sch s 48) v 0 = v from rfl] at l0
  have l1 := l43_1 (callFn SP (k + 4)) M d id hd v.l (rd K (sch s 48) v 64).l rfl r sz 8 0 9 rfl (by omega)
  rw [ad_zero _ _ rfl, ad_all] at l1
  rw [show v.add (rd K (sch s 48) v 64) = blk K v s from rfl] at l1
  have hcl : (hc v r sz).length = 10 := rfl
  have htk : (hc v r sz).take 8 = v.l.map u32 := rfl
  have hG3 := hG.2.2
  have h0 := hG.1
  have lk : (K.map u32).length = 64 := by rw [List.length_map, hK]
  have lw : ((sch s 48).map u32).length = 64 := by rw [List.length_map, sch_len]
  have lr : ((rd K (sch s 48) v 64).l.map u32).length = 8 := rfl
  have hdr : (hc v r sz).drop 0 = hc v r sz := rfl
  rw [show v.l.map u32 ++ [AV.str r, AV.int .i64 sz] = hc v r sz from rfl, hput, show (blk K v s).l.map u32 ++ [AV.str r, AV.int .i64 sz] = hc (blk K v s) r sz from rfl] at l1
  generalize hc (blk K v s) r sz = X at *
  have hvl : (v.l.map u32).length = 8 := rfl
  have uvl : AV.unders 0 (v.l.map u32) = true := by simp
  generalize (rd K (sch s 48) v 64).l = R at *
  have uw : AV.unders 0 ((sch s 48).map u32) = true := by simp
  have tw : ((sch s 48).map u32).take 64 = (sch s 48).map u32 := List.take_of_length_le (by omega)
  have tkk : (K.map u32).take 64 = K.map u32 := List.take_of_length_le (by omega)
  have tr : (R.map u32).take 8 = R.map u32 := List.take_of_length_le (by omega)
  generalize v.l = VL at *
  generalize sch s 48 = S at *
  generalize hc v r sz = HC at *
  rw [call_fn (h43.trans rfl) (by simp)]
  simp (disch := omega) [hn1, hsc, get_low, hd, hg, htk, hcl, hdr, lw, lk, hvl, uvl, uw, tw, tkk, hG3, h0]
  rw [ev_loop 65 (by simp [hn1]) l0 (by omega)]
  simp (disch := omega) [hn1, lr, tr]
  rw [ev_loop 9 (by simp [hn1]) l1 (by omega)]
  simp (disch := omega) []
end
end Go.Det.S

namespace Go.Det.S
open Go.Det

theorem backL_put (v : AV) (cs : List Con) (id n L : Nat) (s : Scope) (M : Mem) (d i : Nat) (x : Con) (h : M.length + 1 = L) : backL (some (v, cs, s :: put M d i x)) id n L = fin id n s (put M d i x) v cs :=
  backL_some v cs id n L s _ (by rw [put_length]; exact h)
theorem backL_put2 (v : AV) (cs : List Con) (id n L : Nat) (s : Scope) (M : Mem) (d i d' i' : Nat) (x y : Con) (h : M.length + 1 = L) : backL (some (v, cs, s :: put (put M d i x) d' i' y)) id n L = fin id n s (put (put M d i x) d' i' y) v cs :=
  backL_some v cs id n L s _ (by rw [put_length, put_length]; exact h)
theorem backL_put3 (v : AV) (cs : List Con) (id n : Nat) (s : Scope) (M : Mem) (d i d' i' : Nat) (x y : Con) : backL (some (v, cs, s :: put M d i x)) id n ((put M d' i' y).length + 1) = fin id n s (put M d i x) v cs :=
  backL_some v cs id n _ s _ (by rw [put_length, put_length])
attribute [simp] backL_put backL_put2 backL_put3

section
variable {SP : SProg} {n16 n18 n20 n21 n22 n23 n24 n25 n40 n41 n43 n44 n45 n60 n61 n71 n72 n80 n81 : Nat} {g1 g3 : Nat}

theorem new_ev (h22 : SP.fn n22 = some (s22 g1)) (k : Nat) (M : Mem) (K : List (BitVec 32)) (v : H8) (hG : Gl K v g1 g3 M) :
    callFn SP (k + 1) n22 [] M = some (.ptr (some ⟨M.length, 0, 10, 0⟩), [.cells (hc v [] 0) true true], M) := by
  have h0 := hG.1
  have hg := hG.2.1
  have hl : (v.l.map u32).length = 8 := rfl
  have ht : (v.l.map u32).take 8 = v.l.map u32 := rfl
  have u0 : AV.unders 0 (v.l.map u32) = true := by simp
  have u1 : AV.noNils (v.l.map u32) = true := by simp
  unfold hc
  generalize v.l.map u32 = V at *
  rw [call_fn (h22.trans rfl) (by simp)]
  simp (disch := omega) [get_low, h0, hg, hl, ht, u0, u1, if_pos]

/-- The blocks of a text, one by one. -/
def fb (K : List (BitVec 32)) (v : H8) (s : List UInt8) : Nat → H8
  | 0 => v
  | j + 1 => fb K (blk K v (s.take 64)) (s.drop 64) j
theorem fb_hs (K : List (BitVec 32)) : ∀ (j : Nat) (v : H8) (s : List UInt8), fb K v s j = hs K v s j
  | 0, _, _ => rfl
  | j + 1, v, s => by
    rw [fb, fb_hs K j]
    have key : ∀ (i : Nat) (v : H8) (s : List UInt8), hs K (blk K v (s.take 64)) (s.drop 64) i = hs K v s (i + 1) := by
      intro i
      induction i with
      | zero => intro v s; rfl
      | succ i ih => intro v s; rw [hs, ih, hs, List.drop_drop]; congr 3; omega
    exact key j v s

/-- What a digest under way holds. -/
def st (K : List (BitVec 32)) (v : H8) (s : List UInt8) : List AV := hc (hs K v s (s.length / 64)) (s.drop (64 * (s.length / 64))) s.length

theorem hs_split (K : List (BitVec 32)) (v : H8) (s : List UInt8) (i : Nat) : ∀ j, hs K (hs K v s i) (s.drop (64 * i)) j = hs K v s (i + j)
  | 0 => rfl
  | j + 1 => by rw [hs, hs_split K v s i j, ← Nat.add_assoc, hs, List.drop_drop]; congr 3; omega

theorem l23 (h43 : SP.fn n43 = some (s43 g3 n60 n61)) (h60 : SP.fn n60 = some (s60 n61 n71)) (h71 : SP.fn n71 = some (W.s14 n80 n81)) (h80 : SP.fn n80 = some W.s25) (h81 : SP.fn n81 = some W.s27) (h61 : SP.fn n61 = some (W.s19 n72)) (h72 : SP.fn n72 = some W.s17)
    (k : Nat) (M : Mem) (K : List (BitVec 32)) (hK : K.length = 64) (v0 : H8) (hG : Gl K v0 g1 g3 M) (d id : Nat) (hd : d < M.length) (h0 : 0 < d) (r : List UInt8) (sz : Int) (j : Nat) : ∀ (n : Nat) (v : H8) (s : List UInt8), s.length / 64 = j → s.length < 2 ^ 48 → j < n →
    fgt a23_0 (rnd0 (some (e23_0 (.ptr (some ⟨d, id, 10, 0⟩)) (.str s), mk [] :: put M d id (.cells (hc v r sz) true true))) k23_0 (callFn SP (k + 5)) (s23_b0 n43) n) =
      some (.exit 0, x23_0 (.ptr (some ⟨d, id, 10, 0⟩)) (.str (s.drop (64 * j))), mk [] :: put M d id (.cells (hc (fb K v s j) r sz) true true)) := by
  have hn1 : d ≠ M.length := by omega
  induction j with
  | zero =>
    intro n v s hj hs hn
    obtain ⟨n, rfl⟩ : ∃ m, n = m + 1 := ⟨n - 1, by omega⟩
    have hlt : ¬ (64 : Int) ≤ s.length := by omega
    have hlt2 : ¬ 64 ≤ s.length := by omega
    rw [show fb K v s 0 = v from rfl, Nat.mul_zero, List.drop_zero]
    generalize hc v r sz = HC at *
    rw [rnd0_some]
    conv => lhs; arg 2; arg 1; rw [s23_b0]
    simp (disch := omega) [hlt, hlt2, hn1, put_length]
  | succ j ih0 =>
    intro n v s hj hs hn
    obtain ⟨n, rfl⟩ : ∃ m, n = m + 1 := ⟨n - 1, by omega⟩
    have hge : (64 : Int) ≤ s.length := by omega
    have hge2 : 64 ≤ s.length := by omega
    have ih := ih0 n (blk K v (s.take 64)) (s.drop 64) (by rw [List.length_drop]; omega) (by rw [List.length_drop]; omega) (by omega)
    rw [List.drop_drop, show 64 + 64 * j = 64 * (j + 1) by omega] at ih
    rw [show fb K v s (j + 1) = fb K (blk K v (s.take 64)) (s.drop 64) j from rfl]
    have hGp : ∀ X, Gl K v0 g1 g3 (put M d id X) := fun X => hG.put d id X hd h0
    have ht := take_ev (g1 := g1) h43 h60 h71 h80 h81 h61 h72 k (mk [] :: put M d id (.cells (hc v r sz) true true)) K hK v0 ((hGp _).cons _) d id (by simp [put_length]; omega) v r sz
      (fun o => by rw [get_low (by simp [put_length]; exact hd), get_put hd]; rfl) (by rw [put_low (by simp [put_length]; exact hd), put_put]) (s.take 64) (by rw [List.length_take]; omega)
    rw [put_low (by simp [put_length]; exact hd), put_put] at ht
    generalize hc (blk K v (s.take 64)) r sz = HC2 at *
    generalize fb K (blk K v (s.take 64)) (s.drop 64) j = FV at *
    generalize hc FV r sz = HC3 at *
    generalize hc v r sz = HC at *
    rw [rnd0_some]
    conv => lhs; arg 2; arg 1; rw [s23_b0]
    simp (disch := omega) [hge, hge2, ht, hn1, put_length]
    simpa using ih

theorem hc_len (v : H8) (r : List UInt8) (n : Int) : (hc v r n).length = 10 := rfl
theorem hc_8 (v : H8) (r : List UInt8) (n : Int) : (hc v r n)[8]? = some (.str r) := rfl
theorem hc_9 (v : H8) (r : List UInt8) (n : Int) : (hc v r n)[9]? = some (.int .i64 n) := rfl
theorem hc_g8 (v : H8) (r : List UInt8) (n : Int) (h : 8 < (hc v r n).length) : (hc v r n)[8] = .str r := rfl
theorem hc_g9 (v : H8) (r : List UInt8) (n : Int) (h : 9 < (hc v r n).length) : (hc v r n)[9] = .int .i64 n := rfl
theorem hc_s8 (v : H8) (r x : List UInt8) (n : Int) : (hc v r n).set 8 (.str x) = hc v x n := rfl
theorem hc_s9 (v : H8) (r : List UInt8) (n m : Int) : (hc v r n).set 9 (.int .i64 m) = hc v r m := rfl
theorem hc_u (v : H8) (r : List UInt8) (n : Int) (m : Nat) : AV.unders m (hc v r n) = true := by simp [hc, AV.unders]
theorem hc_tk (v : H8) (r : List UInt8) (n : Int) : (hc v r n).take 10 = hc v r n := rfl

theorem st_app (K : List (BitVec 32)) (v : H8) (a s : List UInt8) :
    st K v (a ++ s) = hc (fb K (hs K v a (a.length / 64)) (a.drop (64 * (a.length / 64)) ++ s) ((a.drop (64 * (a.length / 64)) ++ s).length / 64)) ((a.drop (64 * (a.length / 64)) ++ s).drop (64 * ((a.drop (64 * (a.length / 64)) ++ s).length / 64))) ((a.length : Int) + s.length) := by
  have e0 : a.drop (64 * (a.length / 64)) ++ s = (a ++ s).drop (64 * (a.length / 64)) := by rw [List.drop_append_of_le_length (by omega)]
  have e1 : (a.length / 64 + (a.drop (64 * (a.length / 64)) ++ s).length / 64) = (a ++ s).length / 64 := by
    rw [List.length_append, List.length_drop, List.length_append]; omega
  rw [fb_hs, ← hs_app K v a s (a.length / 64) (by omega), e0, hs_split, ← e0, e1, e0, List.drop_drop, ← Nat.mul_add, ← e0, e1, st]
  rw [List.length_append]
  rfl

/-- More bytes. -/
theorem write_ev (h23 : SP.fn n23 = some (s23 n43)) (h43 : SP.fn n43 = some (s43 g3 n60 n61)) (h60 : SP.fn n60 = some (s60 n61 n71)) (h71 : SP.fn n71 = some (W.s14 n80 n81)) (h80 : SP.fn n80 = some W.s25) (h81 : SP.fn n81 = some W.s27) (h61 : SP.fn n61 = some (W.s19 n72)) (h72 : SP.fn n72 = some W.s17)
    (k : Nat) (M : Mem) (K : List (BitVec 32)) (hK : K.length = 64) (v0 : H8) (hG : Gl K v0 g1 g3 M) (d id : Nat) (hd : d < M.length) (h0 : 0 < d) (a s : List UInt8) (ha : a.length < 2 ^ 46) (hs : s.length < 2 ^ 46)
    (hg : ∀ o, get M ⟨d, id, 10, o⟩ = some (.cells (st K v0 a) true true)) :
    callFn SP (k + 6) n23 [.ptr (some ⟨d, id, 10, 0⟩), .str s] M = some (.undef, [], put M d id (.cells (st K v0 (a ++ s)) true true)) := by
  have hn1 : d ≠ M.length := by omega
  rw [st_app]
  unfold st at hg
  have hrl : (a.drop (64 * (a.length / 64))).length < 64 := by rw [List.length_drop]; omega
  generalize a.drop (64 * (a.length / 64)) = R at *
  have hl := l23 (g1 := g1) h43 h60 h71 h80 h81 h61 h72 k M K hK v0 hG d id hd h0 R ((a.length : Int) + s.length) ((R ++ s).length / 64) ((R ++ s).length / 64 + 1) (Det.S.hs K v0 a (a.length / 64)) (R ++ s) rfl (by rw [List.length_append]; omega) (by omega)
  have hrs : R.length + s.length ≤ 4611686018427387904 := by omega
  have hfu : (R ++ s).length / 64 + 1 < 2 ^ 50 := by rw [List.length_append]; omega
  generalize fb K (Det.S.hs K v0 a (a.length / 64)) (R ++ s) ((R ++ s).length / 64) = V2 at *
  generalize Det.S.hs K v0 a (a.length / 64) = V at *
  generalize (R ++ s).drop (64 * ((R ++ s).length / 64)) = R2 at *
  have w : IntKind.wrap .i64 ((a.length : Int) + s.length) = (a.length : Int) + s.length := IntWalk.i64_in _ (by omega)
  rw [call_fn (h23.trans rfl) (by simp)]
  simp (disch := first | omega | (simp only [put_length]; omega)) [hn1, get_low, put_low, put_length, get_put hd, put_put, hg, hc_len, hc_8, hc_9, hc_g8, hc_g9, hc_s8, hc_s9, w, hrs, if_pos]
  rw [ev_loop ((R ++ s).length / 64 + 1) (by simp [hn1, put_length]) hl hfu]
  simp (disch := first | omega | (simp only [put_length]; omega)) [hn1, get_low, put_low, put_length, get_put hd, put_put, hg, hc_len, hc_8, hc_9, hc_g8, hc_g9, hc_s8, hc_s9, w, hrs, if_pos]

theorem len_ev (h25 : SP.fn n25 = some s25) (k : Nat) (M : Mem) (d id : Nat) (v : H8) (r : List UInt8) (n : Int) (hd : d < M.length) (rw_ fl : Bool) (hg : ∀ o, get M ⟨d, id, 10, o⟩ = some (.cells (hc v r n) rw_ fl)) : callFn SP (k + 1) n25 [.ptr (some ⟨d, id, 10, 0⟩)] M = some (.int .i64 n, [], M) := by
  rw [call_fn (h25.trans rfl) (by simp)]
  simp (disch := omega) [get_low, hd, hg, hc_len, hc_9, hc_g9, if_pos]

theorem len_nil (h25 : SP.fn n25 = some s25) (k : Nat) (M : Mem) : callFn SP (k + 1) n25 [.ptr none] M = some (.int .i64 0, [], M) := by
  rw [call_fn (h25.trans rfl) (by simp)]
  simp (disch := omega) [if_pos]
theorem write_nil (h23 : SP.fn n23 = some (s23 n43)) (k : Nat) (M : Mem) (s : List UInt8) : callFn SP (k + 1) n23 [.ptr none, .str s] M = some (.undef, [], M) := by
  rw [call_fn (h23.trans rfl) (by simp)]
  simp (disch := omega) [if_pos]
theorem sum_nil (h24 : SP.fn n24 = some (s24 n23 n44 n45)) (k : Nat) (M : Mem) : callFn SP (k + 1) n24 [.ptr none] M = some (.str [], [], M) := by
  rw [call_fn (h24.trans rfl) (by simp)]
  simp (disch := omega) [if_pos]

theorem lo64 (n : Nat) : BitVec.setWidth 32 (BitVec.ofNat 64 n * 8#64) = BitVec.ofNat 32 (8 * n) := by
  apply BitVec.eq_of_toNat_eq
  simp only [BitVec.toNat_setWidth, BitVec.toNat_mul, BitVec.toNat_ofNat]
  omega
theorem hi64 (n : Nat) (h : 8 * n < 2 ^ 64) : BitVec.setWidth 32 ((BitVec.ofNat 64 n * 8#64) >>> 32) = BitVec.ofNat 32 (8 * n / 2 ^ 32) := by
  apply BitVec.eq_of_toNat_eq
  simp only [BitVec.toNat_setWidth, BitVec.toNat_ushiftRight, BitVec.toNat_mul, BitVec.toNat_ofNat, Nat.shiftRight_eq_div_pow]
  omega

/-- More bytes, where the digest lies in the uppermost scope. -/
theorem write_top (h23 : SP.fn n23 = some (s23 n43)) (h43 : SP.fn n43 = some (s43 g3 n60 n61)) (h60 : SP.fn n60 = some (s60 n61 n71)) (h71 : SP.fn n71 = some (W.s14 n80 n81)) (h80 : SP.fn n80 = some W.s25) (h81 : SP.fn n81 = some W.s27) (h61 : SP.fn n61 = some (W.s19 n72)) (h72 : SP.fn n72 = some W.s17)
    (k : Nat) (M : Mem) (K : List (BitVec 32)) (hK : K.length = 64) (v0 : H8) (hG : Gl K v0 g1 g3 M) (d id : Nat) (hdm : d = M.length) (a s : List UInt8) (ha : a.length < 2 ^ 46) (hs : s.length < 2 ^ 46) (l : List (Nat × Con)) :
    callFn SP (k + 6) n23 [.ptr (some ⟨d, id, 10, 0⟩), .str s] (mk ((id, .cells (st K v0 a) true true) :: l) :: M) = some (.undef, [], mk ((id, .cells (st K v0 (a ++ s)) true true) :: l) :: M) := by
  subst hdm
  have h := write_ev (g1 := g1) h23 h43 h60 h71 h80 h81 h61 h72 k (mk ((id, .cells (st K v0 a) true true) :: l) :: M) K hK v0 (hG.cons _) M.length id (by simp) hG.1 a s ha hs (fun o => by
    rw [get_top, mk_cons, if_pos rfl]; rfl)
  rw [put_top, setAt_mk] at h
  simpa [ups] using h

theorem sum_ev (h24 : SP.fn n24 = some (s24 n23 n44 n45)) (h44 : SP.fn n44 = none) (ho : SP.ora = repO n44) (h45 : SP.fn n45 = some W.s23)
    (h23 : SP.fn n23 = some (s23 n43)) (h43 : SP.fn n43 = some (s43 g3 n60 n61)) (h60 : SP.fn n60 = some (s60 n61 n71)) (h71 : SP.fn n71 = some (W.s14 n80 n81)) (h80 : SP.fn n80 = some W.s25) (h81 : SP.fn n81 = some W.s27) (h61 : SP.fn n61 = some (W.s19 n72)) (h72 : SP.fn n72 = some W.s17)
    (k : Nat) (M : Mem) (K : List (BitVec 32)) (hK : K.length = 64) (v0 : H8) (hG : Gl K v0 g1 g3 M) (d id : Nat) (hd : d < M.length) (a : List UInt8) (ha : a.length < 2 ^ 45) (rw_ fl : Bool)
    (hg : ∀ o, get M ⟨d, id, 10, o⟩ = some (.cells (st K v0 a) rw_ fl)) : callFn SP (k + 7) n24 [.ptr (some ⟨d, id, 10, 0⟩)] M = some (.str (dg K v0 a), [], M) := by
  have hn1 : d ≠ M.length := by omega
  have hr := fun k M => rep_ev h44 ho k M 0 (zn a.length : Int) (by omega) (by unfold zn; omega)
  have hw := fun k M hG d hdm l => write_top (g1 := g1) h23 h43 h60 h71 h80 h81 h61 h72 k M K hK v0 hG d 12012 hdm a (tl a.length) (by omega) (by rw [tl_len]; unfold zn; omega) l
  have hGc := fun s => hG.cons s
  have htl : tl a.length = 128 :: (List.replicate (zn a.length) 0 ++ bits a.length) := rfl
  have lo := lo64 a.length
  have hi := hi64 a.length (by omega)
  have hz : 119 - ((a.length % 64 : Nat) : Int) ≥ 0 := by omega
  have ez : (119 - ((a.length % 64 : Nat) : Int)).tmod 64 = (zn a.length : Int) := by
    rw [Int.tmod_eq_emod_of_nonneg hz]; unfold zn; omega
  have hbl := bits_len a.length
  have hpd : dg K v0 a = W.tx true (hs K v0 (a ++ tl a.length) ((a ++ tl a.length).length / 64)).l := rfl
  have hb : bits a.length = W.tx true [BitVec.ofNat 32 (8 * a.length / 2 ^ 32), BitVec.ofNat 32 (8 * a.length)] := rfl
  rw [hpd]
  have hW : ∀ (M' : Mem) (l : List (Nat × Con)) (d : Nat) (rw_ fl2 : Bool), d = M'.length → WS (mk ((12012, .cells (st K v0 (a ++ tl a.length)) rw_ fl2) :: l) :: M') u32 (.slice (some ⟨d, 12012, 10, 0⟩) 8 1) (hs K v0 (a ++ tl a.length) ((a ++ tl a.length).length / 64)).l := by
    intro M' l d rw_ fl2 hdm
    subst hdm
    refine .inr (.inr ⟨M'.length, 12012, 10, rw_, fl2, [.str ((a ++ tl a.length).drop (64 * ((a ++ tl a.length).length / 64))), .int .i64 ((a ++ tl a.length).length : Nat)], rfl, by simp, fun o => ?_⟩)
    rw [get_top, mk_cons, if_pos rfl]
    rfl
  have hrl : (a.drop (64 * (a.length / 64))).length = a.length % 64 := by rw [List.length_drop]; omega
  have h8 : (hs K v0 (a ++ tl a.length) ((a ++ tl a.length).length / 64)).l.length = 8 := rfl
  have hst : st K v0 a = hc (hs K v0 a (a.length / 64)) (a.drop (64 * (a.length / 64))) a.length := rfl
  have q8 : (st K v0 a)[8]? = some (.str (a.drop (64 * (a.length / 64)))) := rfl
  have q9 : (st K v0 a)[9]? = some (.int .i64 (a.length : Int)) := rfl
  have ql : (st K v0 a).length = 10 := rfl
  have qt : (st K v0 a).take 10 = st K v0 a := rfl
  have qu : AV.unders 0 (st K v0 a) = true := by rw [hst]; exact hc_u _ _ _ _
  clear hst hpd
  generalize a.drop (64 * (a.length / 64)) = R at *
  generalize (hs K v0 (a ++ tl a.length) ((a ++ tl a.length).length / 64)).l = HL at *
  generalize st K v0 (a ++ tl a.length) = S2 at *
  generalize st K v0 a = S1 at *
  generalize tl a.length = T at *
  generalize bits a.length = B at *
  obtain ⟨p, hp⟩ : ∃ p, zn a.length = p := ⟨_, rfl⟩
  have hpp : p < 64 := by rw [← hp]; unfold zn; omega
  rw [hp] at hr ez htl
  simp only [Int.toNat_natCast] at hr
  obtain ⟨m, hm⟩ : ∃ m, a.length % 64 = m := ⟨_, rfl⟩
  have hmm : m < 64 := by omega
  rw [hm] at hrl ez
  obtain ⟨u, hu⟩ : ∃ u, 119 - m = u := ⟨_, rfl⟩
  have w1 : IntKind.wrap .i64 (119 - (m : Int)) = (u : Int) := by rw [IntWalk.i64_in _ (by omega)]; omega
  have ez2 : (u : Int).tmod 64 = (p : Int) := by rw [← ez]; congr 1; omega
  have ez3 : (u : Int) % 64 = (p : Int) := by rw [← ez2, Int.tmod_eq_emod_of_nonneg (by omega)]
  have q8' := cell_at q8
  have q9' := cell_at q9
  rw [call_fn (h24.trans rfl) (by simp)]
  simp (disch := first | omega | (simp; done) | (simp; omega)) [hn1, get_low, hd, hg, q8, q9, q8', q9', ql, qt, qu, hrl, w1, ez2, ez3, hr, lo, hi, if_pos]
  rw [W.frombig_ev (SP := SP) (n23 := n45) h45]
  case hv => exact WS.top' (l := [BitVec.ofNat 32 (8 * a.length / 4294967296), BitVec.ofNat 32 (8 * a.length)]) rfl (by simp) rfl rfl
  case hN => simp
  simp only [Nat.reducePow] at hb
  rw [← hb]
  have hw2 := fun k l => hw k M hG M.length rfl l
  rw [htl] at hw2
  simp (disch := first | omega | (simp; done) | (simp; omega)) [hw2, hbl, if_pos]
  rw [W.frombig_ev (SP := SP) (n23 := n45) h45]
  case hv => exact hW _ _ _ _ _ (by simp)
  case hN => omega
  simp (disch := first | omega | (simp; done) | (simp; omega)) []
end
end Go.Det.S

namespace Go.Det.S
open Go.Det

section
variable {SP : SProg} {n16 n18 n20 n21 n22 n23 n24 n25 n40 n41 n43 n44 n45 n60 n61 n71 n72 n80 n81 : Nat} {g1 g3 : Nat}

theorem st_nil (K : List (BitVec 32)) (v : H8) : st K v [] = hc v [] 0 := rfl

theorem shasum_ev (h16 : SP.fn n16 = some (s16 n22 n23 n24)) (h22 : SP.fn n22 = some (s22 g1)) (h24 : SP.fn n24 = some (s24 n23 n44 n45)) (h44 : SP.fn n44 = none) (ho : SP.ora = repO n44) (h45 : SP.fn n45 = some W.s23)
    (h23 : SP.fn n23 = some (s23 n43)) (h43 : SP.fn n43 = some (s43 g3 n60 n61)) (h60 : SP.fn n60 = some (s60 n61 n71)) (h71 : SP.fn n71 = some (W.s14 n80 n81)) (h80 : SP.fn n80 = some W.s25) (h81 : SP.fn n81 = some W.s27) (h61 : SP.fn n61 = some (W.s19 n72)) (h72 : SP.fn n72 = some W.s17)
    (k : Nat) (M : Mem) (K : List (BitVec 32)) (hK : K.length = 64) (v0 : H8) (hG : Gl K v0 g1 g3 M) (s : List UInt8) (hs : s.length < 2 ^ 45) : callFn SP (k + 8) n16 [.str s] M = some (.str (dg K v0 s), [], M) := by
  have hn := fun k (M : Mem) hG => new_ev (g3 := g3) h22 k M K v0 hG
  have hw := fun k (M : Mem) hG d hdm l => write_top (g1 := g1) h23 h43 h60 h71 h80 h81 h61 h72 k M K hK v0 hG d 4000 hdm [] s (by simp) (by omega) l
  have hsm := fun k (M : Mem) hG d hd rw_ fl hg => sum_ev (g1 := g1) h24 h44 ho h45 h23 h43 h60 h71 h80 h81 h61 h72 k M K hK v0 hG d 4000 hd s hs rw_ fl hg
  have hG1 := (hG.cons (mk [])).ro
  have hw2 := fun k l => hw k M hG M.length rfl l
  simp only [st_nil, List.nil_append] at hw2
  have hn1 := fun k => hn k (mk [] :: Det.ro M) (hG.ro.cons _)
  have hq : ∀ k, callFn SP (k + 7) n24 [.ptr (some ⟨M.length, 4000, 10, 0⟩)] (mk [(4000, .cells (st K v0 s) false true)] :: Det.ro M) = some (.str (dg K v0 s), [], mk [(4000, .cells (st K v0 s) false true)] :: Det.ro M) := fun k =>
    hsm k _ (hG.ro.cons _) M.length (by simp [ro_length]) false true (fun o => by
      have := get_top (mk [(4000, Con.cells (st K v0 s) false true)]) (Det.ro M) 4000 10 o
      rw [ro_length] at this
      rw [this, mk_cons, if_pos rfl]; rfl)
  have hul : (hc v0 [] 0).length = 10 := rfl
  generalize st K v0 s = S at *
  generalize hc v0 [] 0 = HC at *
  rw [call_fn (h16.trans rfl) (by simp)]
  simp (disch := first | omega | (simp; done) | (simp; omega)) [hn1, hw2, hq, hul]

end

section
variable {SP : SProg} {n17 n19 n40 n41 n42 n55 n56 n57 n58 n59 n70 : Nat} {g0 g2 : Nat}

theorem shr3 (x : BitVec 32) : x / 8#32 = x >>> 3 := by
  apply BitVec.eq_of_toNat_eq
  rw [BitVec.toNat_udiv, BitVec.toNat_ushiftRight, Nat.shiftRight_eq_div_pow]; rfl
theorem shr10 (x : BitVec 32) : x / 1024#32 = x >>> 10 := by
  apply BitVec.eq_of_toNat_eq
  rw [BitVec.toNat_udiv, BitVec.toNat_ushiftRight, Nat.shiftRight_eq_div_pow]; rfl
theorem not_sub (x : BitVec 32) : 4294967295#32 - x = ~~~x := by
  apply BitVec.eq_of_toNat_eq
  rw [BitVec.toNat_sub, BitVec.toNat_not]
  have := x.isLt
  show (4294967296 - x.toNat + 4294967295) % 4294967296 = 4294967296 - 1 - x.toNat
  omega

theorem rr_ev (h70 : SP.fn n70 = some W.s20) (k : Nat) (M : Mem) (x : BitVec 32) (n : Int) (p : Nat) (hp : (31 * W.tn n) % 32 = p % 32) (hn : -9223372036854775808 ≤ n ∧ n ≤ 9223372036854775807) : callFn SP (k + 1) n70 [u32 x, .int .i64 n] M = some (u32 (W.rot x p), [], M) := by
  rw [W.refright_ev h70 k M x n hn, W.rot_eq x _ _ hp]

theorem moved_a (h56 : SP.fn n56 = some (s56 n70)) (h70 : SP.fn n70 = some W.s20) (k : Nat) (M : Mem) (x : BitVec 32) : callFn SP (k + 2) n56 [u32 x, .int .i64 7, .int .i64 18, u32 8#32] M = some (u32 (sm x 25 14 3), [], M) := by
  have r1 := fun k M => rr_ev h70 k M x 7 25 (by decide) (by decide)
  have r2 := fun k M => rr_ev h70 k M x 18 14 (by decide) (by decide)
  have hd : ¬ (8#32 = 0#32) := by decide
  rw [call_fn (h56.trans rfl) (by simp)]
  simp (disch := omega) [r1, r2, hd, shr3, sm]
theorem moved_b (h56 : SP.fn n56 = some (s56 n70)) (h70 : SP.fn n70 = some W.s20) (k : Nat) (M : Mem) (x : BitVec 32) : callFn SP (k + 2) n56 [u32 x, .int .i64 17, .int .i64 19, u32 1024#32] M = some (u32 (sm x 15 13 10), [], M) := by
  have r1 := fun k M => rr_ev h70 k M x 17 15 (by decide) (by decide)
  have r2 := fun k M => rr_ev h70 k M x 19 13 (by decide) (by decide)
  have hd : ¬ (1024#32 = 0#32) := by decide
  rw [call_fn (h56.trans rfl) (by simp)]
  simp (disch := omega) [r1, r2, hd, shr10, sm]
theorem turned_a (h57 : SP.fn n57 = some (s57 n70)) (h70 : SP.fn n70 = some W.s20) (k : Nat) (M : Mem) (x : BitVec 32) : callFn SP (k + 2) n57 [u32 x, .int .i64 6, .int .i64 11, .int .i64 25] M = some (u32 (sg x 26 21 7), [], M) := by
  have r1 := fun k M => rr_ev h70 k M x 6 26 (by decide) (by decide)
  have r2 := fun k M => rr_ev h70 k M x 11 21 (by decide) (by decide)
  have r3 := fun k M => rr_ev h70 k M x 25 7 (by decide) (by decide)
  rw [call_fn (h57.trans rfl) (by simp)]
  simp (disch := omega) [r1, r2, r3, sg]
theorem turned_b (h57 : SP.fn n57 = some (s57 n70)) (h70 : SP.fn n70 = some W.s20) (k : Nat) (M : Mem) (x : BitVec 32) : callFn SP (k + 2) n57 [u32 x, .int .i64 2, .int .i64 13, .int .i64 22] M = some (u32 (sg x 30 19 10), [], M) := by
  have r1 := fun k M => rr_ev h70 k M x 2 30 (by decide) (by decide)
  have r2 := fun k M => rr_ev h70 k M x 13 19 (by decide) (by decide)
  have r3 := fun k M => rr_ev h70 k M x 22 10 (by decide) (by decide)
  rw [call_fn (h57.trans rfl) (by simp)]
  simp (disch := omega) [r1, r2, r3, sg]
theorem pick_ev (h58 : SP.fn n58 = some s58) (k : Nat) (M : Mem) (x y z : BitVec 32) : callFn SP (k + 1) n58 [u32 x, u32 y, u32 z] M = some (u32 (x &&& y ^^^ ~~~x &&& z), [], M) := by
  rw [call_fn (h58.trans rfl) (by simp)]
  simp (disch := omega) [not_sub]
theorem most_ev (h59 : SP.fn n59 = some s59) (k : Nat) (M : Mem) (x y z : BitVec 32) : callFn SP (k + 1) n59 [u32 x, u32 y, u32 z] M = some (u32 (x &&& y ^^^ x &&& z ^^^ y &&& z), [], M) := by
  rw [call_fn (h59.trans rfl) (by simp)]
  simp (disch := omega) []

/-- The words of a block. -/
theorem l41_0 (h56 : SP.fn n56 = some (s56 n70)) (h70 : SP.fn n70 = some W.s20) (k : Nat) (M : Mem) (s : List UInt8) (A B : List AV) (fa fb_ : Bool) (j : Nat) : ∀ (i t n : Nat), i + j = 48 → t = 16 + i → j < n →
    fgt a41_0 (rnd0 (some (e41_0 (.ptr (some ⟨M.length, 0, 8, 0⟩)) (.ptr (some ⟨M.length, 4, 8, 0⟩)) (.slice (some ⟨M.length, 4004, t, 0⟩) t 1) (.int .i64 t), mk [(0, .cells A true true), (4, .cells B true true), (4004, .cells ((sch s i).map u32) true true)] :: M)) k41_0 (callFn SP (k + 2)) (s41_b0 n56) n) =
      some (.exit 0, x41_0 (.ptr (some ⟨M.length, 0, 8, 0⟩)) (.ptr (some ⟨M.length, 4, 8, 0⟩)) (.slice (some ⟨M.length, 4004, 64, 0⟩) 64 1), mk [(0, .cells A true true), (4, .cells B true true), (4004, .cells ((sch s 48).map u32) true true)] :: M) := by
  induction j with
  | zero =>
    intro i t n h ht hn
    obtain rfl : i = 48 := by omega
    obtain rfl : t = 64 := by omega
    obtain ⟨n, rfl⟩ : ∃ m, n = m + 1 := ⟨n - 1, by omega⟩
    generalize sch s 48 = S at *
    rw [rnd0_some]
    conv => lhs; arg 2; arg 1; rw [s41_b0]
    simp (disch := omega) []
  | succ j ih0 =>
    intro i t n h ht hn
    obtain ⟨n, rfl⟩ : ∃ m, n = m + 1 := ⟨n - 1, by omega⟩
    have hi : i < 48 := by omega
    have ih := ih0 (i + 1) (t + 1) n (by omega) (by omega) (by omega)
    have ma := fun k M x => moved_a h56 h70 k M x
    have mb := fun k M x => moved_b h56 h70 k M x
    have hl := sch_len s i
    rw [← ht] at hl
    have gt : ∀ k, k < 16 + i → ((sch s i).map u32)[k]? = some (u32 (nth (sch s i) k)) := fun k hk => by
      rw [List.getElem?_map, getElem?_nth (sch s i) k (by omega)]; rfl
    have e1 : sch s (i + 1) = sch s i ++ [nw (sch s i) t] := by rw [sch, ht]
    rw [← ht] at gt
    rw [e1] at ih
    obtain ⟨u1, hu1⟩ : ∃ u, t - 15 = u := ⟨_, rfl⟩
    obtain ⟨u2, hu2⟩ : ∃ u, t - 2 = u := ⟨_, rfl⟩
    obtain ⟨u3, hu3⟩ : ∃ u, t - 16 = u := ⟨_, rfl⟩
    obtain ⟨u4, hu4⟩ : ∃ u, t - 7 = u := ⟨_, rfl⟩
    have g1 := cell_at (gt u1 (by omega))
    have g2 := cell_at (gt u2 (by omega))
    have g3 := cell_at (gt u3 (by omega))
    have g4 := cell_at (gt u4 (by omega))
    have ew : nw (sch s i) t = sm (nth (sch s i) u2) 15 13 10 + nth (sch s i) u4 + sm (nth (sch s i) u1) 25 14 3 + nth (sch s i) u3 := by
      rw [nw, hu1, hu2, hu3, hu4]; ac_rfl
    rw [ew] at ih
    have w1 : IntKind.wrap .i64 ((t : Int) - 15) = (u1 : Int) := by rw [IntWalk.i64_in _ (by omega)]; omega
    have w2 : IntKind.wrap .i64 ((t : Int) - 2) = (u2 : Int) := by rw [IntWalk.i64_in _ (by omega)]; omega
    have w3 : IntKind.wrap .i64 ((t : Int) - 16) = (u3 : Int) := by rw [IntWalk.i64_in _ (by omega)]; omega
    have w4 : IntKind.wrap .i64 ((t : Int) - 7) = (u4 : Int) := by rw [IntWalk.i64_in _ (by omega)]; omega
    have b0 : t < 64 := by omega
    have b1 : u1 < t := by omega
    have b2 : u2 < t := by omega
    have b3 : u3 < t := by omega
    have b4 : u4 < t := by omega
    generalize nth (sch s i) u3 = x0 at *
    generalize nth (sch s i) u1 = x1 at *
    generalize nth (sch s i) u4 = x9 at *
    generalize nth (sch s i) u2 = x14 at *
    clear gt ih0 e1 ew
    generalize sch s 48 = S at *
    rw [List.map_append] at ih
    have hl' : ((sch s i).map u32).length = t := by rw [List.length_map, hl]
    have hu : AV.unders 0 ((sch s i).map u32) = true := by simp
    clear hl
    generalize (sch s i).map u32 = Q1 at *
    obtain ⟨Y, hY⟩ : ∃ Y, sm x14 15 13 10 + x9 + sm x1 25 14 3 + x0 = Y := ⟨_, rfl⟩
    rw [hY] at ih
    simp only [List.map_cons, List.map_nil] at ih
    rw [rnd0_some]
    conv => lhs; arg 2; arg 1; rw [s41_b0]
    simp (disch := omega) [-List.getElem?_map, hl', w1, w2, w3, w4, b0, b1, b2, b3, b4, g1, g2, g3, g4, ma, mb, hY, hu, if_pos, IntWalk.i64_in]
    simpa using ih
end
end Go.Det.S

namespace Go.Det.S
open Go.Det

section
variable {SP : SProg} {n17 n19 n40 n41 n42 n55 n56 n57 n58 n59 n70 : Nat} {g0 g2 : Nat}

/-- The rounds. -/
theorem l41_1 (h57 : SP.fn n57 = some (s57 n70)) (h58 : SP.fn n58 = some s58) (h59 : SP.fn n59 = some s59) (h70 : SP.fn n70 = some W.s20) (k : Nat) (M : Mem) (K Wl : List (BitVec 32)) (hK : K.length = 64) (hW : Wl.length = 64) (v0 vz : H8) (hG : Gl K vz g0 g2 M) (A B : List AV) (j : Nat) : ∀ (i n : Nat), i + j = 64 → j < n →
    fgt a41_1 (rnd0 (some (e41_1 (.ptr (some ⟨M.length, 0, 8, 0⟩)) (.ptr (some ⟨M.length, 4, 8, 0⟩)) (.slice (some ⟨M.length, 4004, 64, 0⟩) 64 1) (u32 (rd K Wl v0 i).a) (u32 (rd K Wl v0 i).b) (u32 (rd K Wl v0 i).c) (u32 (rd K Wl v0 i).d) (u32 (rd K Wl v0 i).e) (u32 (rd K Wl v0 i).f) (u32 (rd K Wl v0 i).g) (u32 (rd K Wl v0 i).h) (.int .i64 i),
        mk [(0, .cells A true true), (4, .cells B true true), (4004, .cells (Wl.map u32) true true)] :: M)) k41_1 (callFn SP (k + 2)) (s41_b1 g2 n57 n58 n59) n) =
      some (.exit 2, x41_1 (.ptr (some ⟨M.length, 0, 8, 0⟩)) (.ptr (some ⟨M.length, 4, 8, 0⟩)) (u32 (rd K Wl v0 64).a) (u32 (rd K Wl v0 64).b) (u32 (rd K Wl v0 64).c) (u32 (rd K Wl v0 64).d) (u32 (rd K Wl v0 64).e) (u32 (rd K Wl v0 64).f) (u32 (rd K Wl v0 64).g) (u32 (rd K Wl v0 64).h),
        mk [(0, .cells A true true), (4, .cells B true true)] :: M) := by
  induction j with
  | zero =>
    intro i n h hn
    obtain rfl : i = 64 := by omega
    obtain ⟨n, rfl⟩ : ∃ m, n = m + 1 := ⟨n - 1, by omega⟩
    generalize rd K Wl v0 64 = V at *
    generalize Wl.map u32 = Z at *
    rw [rnd0_some]
    conv => lhs; arg 2; arg 1; rw [s41_b1]
    simp (disch := omega) []
  | succ j ih0 =>
    intro i n h hn
    obtain ⟨n, rfl⟩ : ∃ m, n = m + 1 := ⟨n - 1, by omega⟩
    have hi : i < 64 := by omega
    have ih := ih0 (i + 1) n (by omega) (by omega)
    have ta := fun k M x => turned_a h57 h70 k M x
    have tb := fun k M x => turned_b h57 h70 k M x
    have pk := fun k M x y z => pick_ev h58 k M x y z
    have ms := fun k M x y z => most_ev h59 k M x y z
    have gk : (K.map u32)[i]? = some (u32 (nth K i)) := by rw [List.getElem?_map, getElem?_nth K i (by omega)]; rfl
    have gw : (Wl.map u32)[i]? = some (u32 (nth Wl i)) := by rw [List.getElem?_map, getElem?_nth Wl i (by omega)]; rfl
    have lk : (K.map u32).length = 64 := by rw [List.length_map, hK]
    have lw : (Wl.map u32).length = 64 := by rw [List.length_map, hW]
    have hg2 := hG.2.2
    have h0 := hG.1
    rw [show rd K Wl v0 (i + 1) = stp (rd K Wl v0 i) (nth K i) (nth Wl i) from rfl] at ih
    generalize rd K Wl v0 64 = V64 at *
    clear ih0
    generalize rd K Wl v0 i = v at *
    obtain ⟨a, b, c, d, e, f, g, hh⟩ := v
    have e1 : hh + sg e 26 21 7 + (e &&& f ^^^ ~~~e &&& g) + nth K i + nth Wl i + (sg a 30 19 10 + (a &&& b ^^^ a &&& c ^^^ b &&& c)) = hh + sg e 26 21 7 + (e &&& f ^^^ ~~~e &&& g) + nth K i + nth Wl i + (sg a 30 19 10 + (a &&& b ^^^ a &&& c ^^^ b &&& c)) := rfl
    generalize nth K i = kk at *
    generalize nth Wl i = ww at *
    have gk := cell_at gk
    have gw := cell_at gw
    generalize K.map u32 = KC at *
    generalize Wl.map u32 = WC at *
    simp only [stp] at ih ⊢
    rw [rnd0_some]
    conv => lhs; arg 2; arg 1; rw [s41_b1]
    simp (disch := first | omega | (simp; done) | (simp; omega)) [hi, get_low, lk, lw, gk, gw, hg2, h0, ta, tb, pk, ms, if_pos, IntWalk.i64_in]
    simpa using ih

theorem block_ev (h41 : SP.fn n41 = some (s41 g2 n55 n56 n57 n58 n59)) (h55 : SP.fn n55 = some W.s13) (h56 : SP.fn n56 = some (s56 n70)) (h57 : SP.fn n57 = some (s57 n70)) (h58 : SP.fn n58 = some s58) (h59 : SP.fn n59 = some s59) (h70 : SP.fn n70 = some W.s20)
    (k : Nat) (M : Mem) (K : List (BitVec 32)) (hK : K.length = 64) (vz : H8) (hG : Gl K vz g0 g2 M) (v : H8) (s : List UInt8) (hs : s.length = 64) : callFn SP (k + 4) n41 [.agg (v.l.map u32), .str s] M = some (.agg ((blk K v s).l.map u32), [], M) := by
  have hw := fun k M => W.refwords_ev h55 k M true s 16 (by omega) (by omega) (by omega)
  rw [show tab (W.wat true s) 16 = sch s 0 from rfl] at hw
  have q0 := l41_0 h56 h70 (k + 1) M s (v.l.map u32) [u32 0#32, u32 0#32, u32 0#32, u32 0#32, u32 0#32, u32 0#32, u32 0#32, u32 0#32] true true 48 0 16 49 rfl rfl (by omega)
  have q1 := l41_1 h57 h58 h59 h70 (k + 1) M K (sch s 48) hK (sch_len s 48) v vz hG (v.l.map u32) [u32 0#32, u32 0#32, u32 0#32, u32 0#32, u32 0#32, u32 0#32, u32 0#32, u32 0#32] 64 0 65 rfl (by omega)
  rw [show rd K (sch s 48) v 0 = v from rfl] at q1
  rw [show blk K v s = v.add (rd K (sch s 48) v 64) from rfl]
  have h0 := sch_len s 0
  generalize rd K (sch s 48) v 64 = R at *
  generalize sch s 48 = S at *
  generalize sch s 0 = S0 at *
  obtain ⟨a, b, c, d, e, f, g, hh⟩ := v
  simp only [H8.l, H8.add, List.map_cons, List.map_nil] at q0 q1 ⊢
  rw [call_fn (h41.trans rfl) (by simp)]
  simp (disch := omega) [hw, if_pos]
  rw [ev_loop 49 (by simp) q0 (by omega)]
  simp (disch := omega) []
  rw [ev_loop 65 (by simp) q1 (by omega)]
  simp (disch := omega) []

/-! ### a text with its end -/
def zz (n : Nat) : Nat := (120 - n % 64) % 64
theorem zz_zero (n : Nat) (h : n % 64 = 56) : zz n = 0 := by unfold zz; omega
theorem zz_succ (n : Nat) (h : n % 64 ≠ 56) : zz n = zz (n + 1) + 1 := by unfold zz; omega
theorem zz_zn (n : Nat) : zz (n + 1) = zn n := by unfold zz zn; omega

theorem l40 (C : Det.Calls) (M : Mem) (s : AV) (hsi : AV.ids M.length s = []) (j : Nat) : ∀ (n : Nat) (l : List UInt8), zz l.length = j → j < n → l.length + j < 2 ^ 44 →
    fgt a40_0 (rnd0 (some (e40_0 s (.slice (some ⟨M.length, 4008, l.length, 0⟩) l.length 1), mk [(4008, .cells (l.map byteAV) true true)] :: M)) k40_0 C s40_b0 n) =
      some (.exit 0, x40_0 s (.slice (some ⟨M.length, 4008, l.length + j, 0⟩) (l.length + j) 1), mk [(4008, .cells ((l ++ List.replicate j 0).map byteAV) true true)] :: M) := by
  induction j with
  | zero =>
    intro n l hp hn hl
    have h16 : (l.length : Int) % 64 = 56 := by unfold zz at hp; omega
    obtain ⟨n, rfl⟩ : ∃ m, n = m + 1 := ⟨n - 1, by omega⟩
    rw [List.replicate_zero, List.append_nil, Nat.add_zero]
    rw [rnd0_some]
    conv => lhs; arg 2; arg 1; rw [s40_b0]
    simp (disch := omega) [h16, hsi]
  | succ j ih0 =>
    intro n l hp hn hl
    have h16 : l.length % 64 ≠ 56 := by
      intro h
      rw [zz_zero _ h] at hp
      omega
    have h16' : ¬ (l.length : Int) % 64 = 56 := by omega
    obtain ⟨n, rfl⟩ : ∃ m, n = m + 1 := ⟨n - 1, by omega⟩
    have hq := zz_succ l.length h16
    have ih := ih0 n (l ++ [0]) (by rw [List.length_append, List.length_singleton]; omega) (by omega) (by rw [List.length_append, List.length_singleton]; omega)
    rw [List.append_assoc, show [0] ++ List.replicate j (0 : UInt8) = List.replicate (j + 1) 0 from rfl] at ih
    have e : (l ++ [0]).length + j = l.length + (j + 1) := by rw [List.length_append, List.length_singleton]; omega
    rw [e] at ih
    have hal : l.length ≤ 35184372088831 := by omega
    generalize l ++ List.replicate (j + 1) 0 = P at *
    generalize l.length + (j + 1) = m at *
    rw [rnd0_some]
    conv => lhs; arg 2; arg 1; rw [s40_b0]
    simpa (disch := omega) [h16', hsi, hal, if_pos] using ih

theorem padded_ev (h40 : SP.fn n40 = some (s40 n42)) (h42 : SP.fn n42 = some W.s22) (k : Nat) (M : Mem) (s : List UInt8) (hs : s.length < 2 ^ 40) : callFn SP (k + 2) n40 [.str s] M = some (.str (pad s), [], M) := by
  have q := l40 (callFn SP (k + 1)) M (.str s) (by simp) (zn s.length) (zn s.length + 1) (s ++ [128]) (by rw [List.length_append, List.length_singleton, zz_zn]) (by omega) (by rw [List.length_append, List.length_singleton]; unfold zn; omega)
  have hz : zn s.length < 64 := Nat.mod_lt _ (by omega)
  have hpd : pad s = (s ++ [128] ++ List.replicate (zn s.length) 0) ++ bits s.length := by simp [pad, tl]
  have hbl := bits_len s.length
  have hb : bits s.length = W.tx true [BitVec.ofNat 32 (8 * s.length / 2 ^ 32), BitVec.ofNat 32 (8 * s.length)] := rfl
  have hXl : (s ++ [128] ++ List.replicate (zn s.length) 0).length = (s ++ [128]).length + zn s.length := by rw [List.length_append, List.length_replicate]
  have hX1 : (s ++ [128]).length = s.length + 1 := by simp
  rw [hX1] at q hXl
  have b1 : bytesOf (((s ++ [128] ++ List.replicate (zn s.length) 0).map byteAV).take (s.length + 1 + zn s.length)) = some (s ++ [128] ++ List.replicate (zn s.length) 0) := by
    rw [List.take_of_length_le (by rw [List.length_map]; omega), bytesOf_map]
  rw [hpd]
  generalize s ++ [128] ++ List.replicate (zn s.length) 0 = X at *
  generalize zn s.length = p at *
  have w1 : IntKind.wrap .i64 (8 * (s.length : Int)) = ((8 * s.length : Nat) : Int) := by rw [IntWalk.i64_in _ (by omega)]; omega
  have w2 : BitVec.ofInt 32 (IntKind.wrap .i64 (((8 * s.length : Nat) : Int) / 4294967296)) = BitVec.ofNat 32 (8 * s.length / 2 ^ 32) := by
    rw [IntWalk.i64_in _ (by omega), show ((8 * s.length : Nat) : Int) / 4294967296 = ((8 * s.length / 2 ^ 32 : Nat) : Int) from rfl, bv_ofInt]
  have w3 : BitVec.ofInt 32 (((8 * s.length : Nat) : Int) % 4294967296) = BitVec.ofNat 32 (8 * s.length) := by
    rw [show ((8 * s.length : Nat) : Int) % 4294967296 = ((8 * s.length % 2 ^ 32 : Nat) : Int) from rfl, bv_ofInt]
    apply BitVec.eq_of_toNat_eq
    simp only [BitVec.toNat_ofNat]
    omega
  generalize 8 * s.length = m at *
  have hal : s.length + 1 ≤ 35184372088832 := by omega
  rw [call_fn (h40.trans rfl) (by simp)]
  simp (disch := omega) [hal, if_pos]
  rw [ev_loop (p + 1) (by simp) q (by omega)]
  simp (disch := omega) [w1, w2, w3, if_pos]
  rw [W.reftext_ev (SP := SP) (n22 := n42) h42]
  case hv => exact WS.top' (l := [BitVec.ofNat 32 (m / 4294967296), BitVec.ofNat 32 m]) rfl (by simp) rfl rfl
  case hN => simp
  simp only [Nat.reducePow] at hb
  rw [← hb]
  simp (disch := omega) [b1, hXl, hbl, if_pos]
end
end Go.Det.S

namespace Go.Det.S
open Go.Det

section
variable {SP : SProg} {n15 n16 n17 n19 n22 n23 n24 n40 n41 n42 n43 n44 n45 n55 n56 n57 n58 n59 n60 n61 n70 n71 n72 n80 n81 : Nat} {g0 g1 g2 g3 : Nat}

/-- The blocks. -/
theorem l17_0 (h41 : SP.fn n41 = some (s41 g2 n55 n56 n57 n58 n59)) (h55 : SP.fn n55 = some W.s13) (h56 : SP.fn n56 = some (s56 n70)) (h57 : SP.fn n57 = some (s57 n70)) (h58 : SP.fn n58 = some s58) (h59 : SP.fn n59 = some s59) (h70 : SP.fn n70 = some W.s20)
    (k : Nat) (M : Mem) (K : List (BitVec 32)) (hK : K.length = 64) (v0 : H8) (hG : Gl K v0 g0 g2 M) (s : List UInt8) (hs : s.length < 2 ^ 45) (m : Nat) (hm : s.length = 64 * m) (j : Nat) : ∀ (i n : Nat), i + j = m → j < n →
    fgt a17_0 (rnd0 (some (e17_0 (.str s) (.ptr (some ⟨M.length, 8004, 8, 0⟩)) (.int .i64 ((64 * i : Nat) : Int)), mk [(8004, .cells ((Det.S.hs K v0 s i).l.map u32) true true)] :: M)) k17_0 (callFn SP (k + 4)) (s17_b0 n41) n) =
      some (.exit 0, x17_0 (.ptr (some ⟨M.length, 8004, 8, 0⟩)), mk [(8004, .cells ((Det.S.hs K v0 s m).l.map u32) true true)] :: M) := by
  induction j with
  | zero =>
    intro i n h hn
    obtain rfl : i = m := by omega
    obtain ⟨n, rfl⟩ : ∃ m, n = m + 1 := ⟨n - 1, by omega⟩
    have hi : ¬ 64 * (i : Int) < (s.length : Int) := by omega
    generalize (Det.S.hs K v0 s i).l.map u32 = C at *
    rw [rnd0_some]
    conv => lhs; arg 2; arg 1; rw [s17_b0]
    simp (disch := omega) [hi]
  | succ j ih0 =>
    intro i n h hn
    obtain ⟨n, rfl⟩ : ∃ m, n = m + 1 := ⟨n - 1, by omega⟩
    have ih := ih0 (i + 1) n (by omega) (by omega)
    rw [show ((64 * (i + 1) : Nat) : Int) = 64 * (i : Int) + 64 by omega] at ih
    have hi : 64 * (i : Int) < (s.length : Int) := by omega
    have hb := fun l => block_ev (g0 := g0) h41 h55 h56 h57 h58 h59 h70 k (mk l :: ro M) K hK v0 (hG.ro.cons (mk l)) (Det.S.hs K v0 s i) ((s.drop (64 * i)).take 64) (by rw [List.length_take, List.length_drop]; omega)
    have e1 : (64 * (i : Int) + 64).toNat = 64 * i + 64 := by omega
    have e2 : (64 * (i : Int)).toNat = 64 * i := by omega
    have e3 : IntKind.wrap .i64 (64 * (i : Int) + 64) = 64 * (i : Int) + 64 := IntWalk.i64_in _ (by omega)
    rw [show Det.S.hs K v0 s (i + 1) = blk K (Det.S.hs K v0 s i) ((s.drop (64 * i)).take 64) from rfl] at ih
    have ti : (s.take (64 * i + 64)).drop (64 * i) = (s.drop (64 * i)).take 64 := by rw [List.drop_take]; congr 1; omega
    have tl1 : 64 * i + 64 ≤ s.length := by omega
    generalize Det.S.hs K v0 s m = Vm at *
    generalize blk K (Det.S.hs K v0 s i) ((s.drop (64 * i)).take 64) = V2 at *
    generalize Det.S.hs K v0 s i = V1 at *
    have lV1 : V1.l.length = 8 := rfl
    have lV2 : V2.l.length = 8 := rfl
    have tV1 : (V1.l.map u32).take 8 = V1.l.map u32 := rfl
    have dV1 : (V1.l.map u32).drop 8 = [] := rfl
    have tV2 : (V2.l.map u32).take 8 = V2.l.map u32 := rfl
    rw [rnd0_some]
    conv => lhs; arg 2; arg 1; rw [s17_b0]
    simp (disch := first | omega | (simp; done) | (simp; omega)) [hi, e1, e2, e3, ti, hb, lV1, lV2, tV1, dV1, tV2, if_pos]
    simpa using ih

/-- The words of a state, listed. -/
theorem l17_1 (C : Det.Calls) (M : Mem) (a b c d e f g h : BitVec 32) :
    fgt a17_1 (rnd0 (some (e17_1 (.ptr (some ⟨M.length, 8004, 8, 0⟩)) (.slice none 0 0) (.int .i64 0), mk [(8004, .cells ((H8.mk a b c d e f g h).l.map u32) true true)] :: M)) k17_1 C s17_b1 9) =
      some (.exit 2, x17_1 (.slice (some ⟨M.length, 44020, 8, 0⟩) 8 1), mk [(44020, .cells ((H8.mk a b c d e f g h).l.map u32) true true)] :: M) := by
  simp only [H8.l, List.map_cons, List.map_nil]
  have w1 : IntKind.wrap .i64 1 = 1 := rfl
  have w2 : IntKind.wrap .i64 2 = 2 := rfl
  have w3 : IntKind.wrap .i64 3 = 3 := rfl
  have w4 : IntKind.wrap .i64 4 = 4 := rfl
  have w5 : IntKind.wrap .i64 5 = 5 := rfl
  have w6 : IntKind.wrap .i64 6 = 6 := rfl
  have w7 : IntKind.wrap .i64 7 = 7 := rfl
  have w8 : IntKind.wrap .i64 8 = 8 := rfl
  iterate 9
    rw [rnd0_some]
    conv => lhs; arg 2; arg 1; rw [s17_b1]
    simp (disch := first | omega | (simp; done) | (simp; omega)) [w1, w2, w3, w4, w5, w6, w7, w8, if_pos]

theorem refsum_ev (h17 : SP.fn n17 = some (s17 g0 n40 n41 n42)) (h40 : SP.fn n40 = some (s40 n42)) (h42 : SP.fn n42 = some W.s22) (h41 : SP.fn n41 = some (s41 g2 n55 n56 n57 n58 n59)) (h55 : SP.fn n55 = some W.s13) (h56 : SP.fn n56 = some (s56 n70)) (h57 : SP.fn n57 = some (s57 n70)) (h58 : SP.fn n58 = some s58) (h59 : SP.fn n59 = some s59) (h70 : SP.fn n70 = some W.s20)
    (k : Nat) (M : Mem) (K : List (BitVec 32)) (hK : K.length = 64) (v0 : H8) (hG : Gl K v0 g0 g2 M) (s : List UInt8) (hs : s.length < 2 ^ 40) : callFn SP (k + 5) n17 [.str s] M = some (.str (dg K v0 s), [], M) := by
  have hp := fun k M => padded_ev h40 h42 k M s hs
  have hl := pad_len s
  have q := l17_0 (g0 := g0) h41 h55 h56 h57 h58 h59 h70 k M K hK v0 hG (pad s) (by omega) ((pad s).length / 64) (by omega) ((pad s).length / 64) 0 ((pad s).length / 64 + 1) (by omega) (by omega)
  have hd : dg K v0 s = W.tx true (Det.S.hs K v0 (pad s) ((pad s).length / 64)).l := rfl
  have hg := hG.2.1
  have h0 := hG.1
  rw [hd]
  rw [show Det.S.hs K v0 (pad s) 0 = v0 from rfl, show ((64 * 0 : Nat) : Int) = 0 from rfl] at q
  generalize Det.S.hs K v0 (pad s) ((pad s).length / 64) = V at *
  have lv : v0.l.length = 8 := rfl
  have tv : (v0.l.map u32).take 8 = v0.l.map u32 := rfl
  generalize pad s = P at *
  obtain ⟨a, b, c, d, e, f, g, h⟩ := V
  have q2 := l17_1 (callFn SP (k + 4)) M a b c d e f g h
  rw [call_fn (h17.trans rfl) (by simp)]
  simp (disch := first | omega | (simp; done) | (simp; omega)) [hp, hg, h0, get_low, lv, tv, if_pos]
  rw [ev_loop (P.length / 64 + 1) (by simp) q (by omega)]
  simp (disch := omega) []
  rw [ev_loop 9 (by simp) q2 (by omega)]
  simp (disch := omega) []
  rw [W.reftext_ev (SP := SP) (n22 := n42) h42]
  case hv => exact WS.top' (l := [a, b, c, d, e, f, g, h]) rfl (by simp) rfl rfl
  case hN => simp
  simp (disch := first | omega | (simp; done) | (simp; omega)) [if_pos, H8.l]
end
end Go.Det.S
