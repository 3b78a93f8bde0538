/-
  LIB, codec: the code of package codec and of its document's answer, and what each function comes to, whatever program they stand in.
-/
import Derived.Test.YtaennaoaoahjmaaDoorLibWW
set_option maxRecDepth 100000
set_option maxHeartbeats 4000000
set_option linter.unusedSimpArgs false
set_option linter.unusedVariables false
namespace Go.Det.K
open Go.Det

theorem backL_put (v : AV) (cs : List Con) (id n L : Nat) (s : Scope) (M : Mem) (d i : Nat) (x : Con) (h : M.length + 1 = L) : backL (some (v, cs, s :: put M d i x)) id n L = fin id n s (put M d i x) v cs :=
  backL_some v cs id n L s _ (by rw [put_length]; exact h)
theorem backL_put2 (v : AV) (cs : List Con) (id n L : Nat) (s : Scope) (M : Mem) (d i d' i' : Nat) (x y : Con) (h : M.length + 1 = L) : backL (some (v, cs, s :: put (put M d i x) d' i' y)) id n L = fin id n s (put (put M d i x) d' i' y) v cs :=
  backL_some v cs id n L s _ (by rw [put_length, put_length]; exact h)
theorem backL_put3 (v : AV) (cs : List Con) (id n : Nat) (s : Scope) (M : Mem) (d i d' i' : Nat) (x y : Con) : backL (some (v, cs, s :: put M d i x)) id n ((put M d' i' y).length + 1) = fin id n s (put M d i x) v cs :=
  backL_some v cs id n _ s _ (by rw [put_length, put_length])
attribute [simp] backL_put backL_put2 backL_put3

-- 20 calls [38]
def s20 (n38 : Nat) : SFunc := ⟨
  .seq (
    .region [
      ⟨some 2, none, [], .p (.mv (.c (.str [])))⟩]) (
  .seq (
    .region [
      ⟨some 3, none, [], .p (.mv (.t 0))⟩,
      ⟨some 4, none, [], .p (.bin .shr (.t 3) (.c (u64 32#64)))⟩,
      ⟨some 5, none, [], .p (.conv .u32 (.t 4))⟩,
      ⟨some 6, none, [], .p (.mv (.t 0))⟩,
      ⟨some 7, none, [], .p (.conv .u32 (.t 6))⟩,
      ⟨some 8, none, [], .a 4020 (.buildS 1 2 [u32 0#32] [(0, 1, .t 5), (1, 1, .t 7)])⟩,
      ⟨some 9, none, [], .call 4024 4 true (.f n38) [.t 8]⟩,
      ⟨some 2, none, [], .p (.mv (.t 9))⟩]) (
  .ret)),
  10, [Sum.inl 2]⟩

-- 21 calls []
abbrev k21_0 : List Nat := [0, 3, 4]
abbrev a21_0 : List Nat := [3]
abbrev e21_0 (v0 v3 v4 : AV) : Env := [v0, .dead, .dead, v3, v4, .dead, .dead, .dead, .dead, .dead, .dead, .dead, .dead, .dead, .dead, .dead, .dead, .dead]
abbrev x21_0 (v3 : AV) : Env := [.dead, .dead, .dead, v3, .dead, .dead, .dead, .dead, .dead, .dead, .dead, .dead, .dead, .dead, .dead, .dead, .dead, .dead]
def s21_b0 : SCode :=
  .seq (
    .seq (
      .region [
        ⟨some 5, none, [], .p (.mv (.t 4))⟩,
        ⟨some 6, none, [], .p (.bin .geq (.t 5) (.c (.int .i64 0)))⟩]) (
    .cond (.t 6) (
      .skip) (
      .exit 0))) (
  .seq (
    .block 1 (
      .seq (
        .region [
          ⟨some 9, none, [], .p (.mv (.t 4))⟩,
          ⟨some 10, none, [], .p (.mv (.t 0))⟩,
          ⟨some 11, none, [], .p (.bin .rem (.t 10) (.c (u64 256#64)))⟩,
          ⟨some 12, none, [], .p (.conv .u8 (.t 11))⟩,
          ⟨some 13, none, [], .p (.iaddrA 8 1 (.t 3) (.t 9))⟩,
          ⟨none, none, [], .w (.store1 (.t 13) (.t 12))⟩]) (
      .region [
        ⟨some 14, none, [], .p (.mv (.t 0))⟩,
        ⟨some 15, none, [], .p (.bin .quo (.t 14) (.c (u64 256#64)))⟩,
        ⟨some 0, none, [], .p (.mv (.t 15))⟩]))) (
  .region [
    ⟨some 7, none, [], .p (.mv (.t 4))⟩,
    ⟨some 8, none, [], .p (.bin .sub (.t 7) (.c (.int .i64 1)))⟩,
    ⟨some 4, none, [], .p (.mv (.t 8))⟩]))

def s21 : SFunc := ⟨
  .seq (
    .region [
      ⟨some 2, none, [], .p (.mv (.c (.str [])))⟩]) (
  .seq (
    .region [
      ⟨some 3, none, [], .a 4000 (.alloc [byteAV 0, byteAV 0, byteAV 0, byteAV 0, byteAV 0, byteAV 0, byteAV 0, byteAV 0])⟩]) (
  .seq (
    .seq (
      .region [
        ⟨some 4, none, [], .p (.mv (.c (.int .i64 7)))⟩]) (
    .block 0 (
      .loop k21_0 a21_0 s21_b0))) (
  .seq (
    .region [
      ⟨some 16, none, [], .p (.slcA 8 1 (.t 3) none none)⟩,
      ⟨some 17, none, [], .r (.toStr (.t 16))⟩,
      ⟨some 2, none, [], .p (.mv (.t 17))⟩]) (
  .ret)))),
  18, [Sum.inl 2]⟩

-- 22 calls [20]
def s22 (n20 : Nat) : SFunc := ⟨
  .seq (
    .region [
      ⟨some 2, none, [], .p (.mv (.c (.str [])))⟩]) (
  .seq (
    .region [
      ⟨some 3, none, [], .p (.mv (.t 0))⟩,
      ⟨some 4, none, [], .p (.lenV false (.t 3))⟩,
      ⟨some 5, none, [], .p (.conv .u64 (.t 4))⟩,
      ⟨some 6, none, [], .call 4012 4 true (.f n20) [.t 5]⟩,
      ⟨some 7, none, [], .p (.mv (.t 0))⟩,
      ⟨some 8, none, [], .p (.bin .add (.t 6) (.t 7))⟩,
      ⟨some 2, none, [], .p (.mv (.t 8))⟩]) (
  .ret)),
  9, [Sum.inl 2]⟩

-- 23 calls [21]
def s23 (n21 : Nat) : SFunc := ⟨
  .seq (
    .region [
      ⟨some 2, none, [], .p (.mv (.c (.str [])))⟩]) (
  .seq (
    .region [
      ⟨some 4, none, [], .p (.mv (.t 0))⟩,
      ⟨some 5, none, [], .p (.lenV false (.t 4))⟩,
      ⟨some 6, none, [], .p (.conv .u64 (.t 5))⟩,
      ⟨some 7, none, [], .call 4012 4 true (.f n21) [.t 6]⟩,
      ⟨some 3, none, [], .p (.mv (.t 7))⟩]) (
  .seq (
    .region [
      ⟨some 8, none, [], .p (.mv (.t 3))⟩,
      ⟨some 9, none, [], .p (.mv (.t 0))⟩,
      ⟨some 10, none, [], .p (.bin .add (.t 8) (.t 9))⟩,
      ⟨some 2, none, [], .p (.mv (.t 10))⟩]) (
  .ret))),
  11, [Sum.inl 2]⟩

-- 24 calls []
def s24 : SFunc := ⟨
  .seq (
    .region [
      ⟨some 2, none, [], .p (.mv (.c (.ptr none)))⟩]) (
  .seq (
    .region [
      ⟨some 3, none, [], .p (.mv (.t 0))⟩,
      ⟨some 4, none, [], .p (.build [.str [], .int .i64 0] [(0, 1, .t 3)])⟩,
      ⟨some 5, none, [], .a 4008 (.box (.t 4))⟩,
      ⟨some 2, none, [], .p (.mv (.t 5))⟩]) (
  .ret)),
  6, [Sum.inl 2]⟩

-- 25 calls [26, 40]
def s25 (n26 n40 : Nat) : SFunc := ⟨
  .seq (
    .region [
      ⟨some 2, none, [], .p (.mv (.c (.str [])))⟩]) (
  .seq (
    .region [
      ⟨some 3, none, [], .p (.mv (.t 0))⟩,
      ⟨some 4, none, [], .p (.mv (.t 0))⟩,
      ⟨some 5, none, [], .call 4008 4 false (.f n26) [.t 4]⟩,
      ⟨some 6, none, [], .call 4012 4 false (.f n40) [.t 3, .t 5]⟩,
      ⟨some 2, none, [], .p (.mv (.t 6))⟩]) (
  .ret)),
  7, [Sum.inl 2]⟩

-- 26 calls [40, 41]
def s26 (n40 n41 : Nat) : SFunc := ⟨
  .seq (
    .region [
      ⟨some 2, none, [], .p (.mv (.c (u64 0#64)))⟩]) (
  .seq (
    .region [
      ⟨some 7, none, [], .p (.mv (.t 0))⟩,
      ⟨some 8, none, [], .call 4004 4 false (.f n40) [.t 7, .c (u64 8#64)]⟩,
      ⟨some 9, none, [], .call 4008 4 true (.f n41) [.t 8]⟩,
      ⟨some 6, none, [], .p (.mv (.t 9))⟩,
      ⟨some 10, none, [], .p (.extract (.t 6) 0)⟩,
      ⟨some 11, none, [], .p (.extract (.t 6) 1)⟩,
      ⟨some 3, none, [], .p (.mv (.t 10))⟩,
      ⟨some 4, none, [], .p (.mv (.t 11))⟩]) (
  .seq (
    .seq (
      .region [
        ⟨some 12, none, [], .p (.mv (.t 3))⟩,
        ⟨some 13, none, [], .p (.lenV true (.t 12))⟩,
        ⟨some 14, none, [], .p (.bin .lss (.t 13) (.c (.int .i64 2)))⟩]) (
    .cond (.t 14) (
      .seq (
        .region [
          ⟨some 2, none, [], .p (.mv (.c (u64 0#64)))⟩]) (
      .ret)) (
      .skip))) (
  .seq (
    .region [
      ⟨some 15, none, [], .p (.mv (.t 3))⟩,
      ⟨some 16, none, [], .p (.arrPtr 2 (.t 15))⟩,
      ⟨some 17, none, [], .r (.loadN 2 (.t 16))⟩,
      ⟨some 5, none, [], .a 16012 (.alloc [u32 0#32, u32 0#32])⟩,
      ⟨none, none, [], .w (.storeN 2 (.t 5) (.t 17))⟩]) (
  .seq (
    .region [
      ⟨some 18, none, [], .p (.iaddrA 2 1 (.t 5) (.c (.int .i64 0)))⟩,
      ⟨some 19, none, [], .r (.load1 (.t 18))⟩,
      ⟨some 20, none, [], .p (.conv .u64 (.t 19))⟩,
      ⟨some 21, none, [], .p (.bin .shl (.t 20) (.c (u64 32#64)))⟩,
      ⟨some 22, none, [], .p (.iaddrA 2 1 (.t 5) (.c (.int .i64 1)))⟩,
      ⟨some 23, none, [], .r (.load1 (.t 22))⟩,
      ⟨some 24, none, [], .p (.conv .u64 (.t 23))⟩,
      ⟨some 25, none, [], .p (.bin .or (.t 21) (.t 24))⟩,
      ⟨some 2, none, [], .p (.mv (.t 25))⟩]) (
  .ret))))),
  26, [Sum.inl 2]⟩

-- 27 calls []
def s27 : SFunc := ⟨
  .seq (
    .region [
      ⟨some 2, none, [], .p (.mv (.c (.int .i64 0)))⟩]) (
  .seq (
    .block 0 (
      .seq (
        .region [
          ⟨some 4, none, [], .p (.mv (.t 0))⟩,
          ⟨some 5, none, [], .p (.eqn .ptr false (.t 4) (.c (.ptr none)))⟩,
          ⟨some 3, none, [], .p (.mv (.t 5))⟩]) (
      .cond (.t 3) (
        .seq (
          .region [
            ⟨some 2, none, [], .p (.mv (.c (.int .i64 1)))⟩]) (
        .ret)) (
        .seq (
          .region [
            ⟨some 7, none, [], .p (.mv (.t 0))⟩,
            ⟨some 8, none, [], .p (.nilChk (.t 7))⟩,
            ⟨some 9, none, [], .p (.faddr 1 (.t 8))⟩,
            ⟨some 10, none, [], .r (.load1 (.t 9))⟩,
            ⟨some 11, none, [], .p (.bin .neq (.t 10) (.c (.int .i64 0)))⟩,
            ⟨some 6, none, [], .p (.mv (.t 11))⟩]) (
        .cond (.t 6) (
          .seq (
            .region [
              ⟨some 12, none, [], .p (.mv (.t 0))⟩,
              ⟨some 13, none, [], .p (.nilChk (.t 12))⟩,
              ⟨some 14, none, [], .p (.faddr 1 (.t 13))⟩,
              ⟨some 15, none, [], .r (.load1 (.t 14))⟩,
              ⟨some 2, none, [], .p (.mv (.t 15))⟩]) (
          .ret)) (
          .seq (
            .region [
              ⟨some 17, none, [], .p (.mv (.t 0))⟩,
              ⟨some 18, none, [], .p (.nilChk (.t 17))⟩,
              ⟨some 19, none, [], .p (.faddr 0 (.t 18))⟩,
              ⟨some 20, none, [], .r (.load1 (.t 19))⟩,
              ⟨some 21, none, [], .p (.bin .neq (.t 20) (.c (.str [])))⟩,
              ⟨some 16, none, [], .p (.mv (.t 21))⟩]) (
          .cond (.t 16) (
            .seq (
              .region [
                ⟨some 2, none, [], .p (.mv (.c (.int .i64 5)))⟩]) (
            .ret)) (
            .skip)))))))) (
  .seq (
    .region [
      ⟨some 2, none, [], .p (.mv (.c (.int .i64 0)))⟩]) (
  .ret))),
  22, [Sum.inl 2]⟩

-- 29 calls []
abbrev k29_0 : List Nat := [0, 3, 4]
abbrev a29_0 : List Nat := [0, 3]
abbrev e29_0 (v0 v3 v4 : AV) : Env := [v0, .dead, .dead, v3, v4, .dead, .dead, .dead, .dead, .dead, .dead, .dead, .dead, .dead, .dead, .dead, .dead, .dead, .dead, .dead, .dead, .dead, .dead, .dead, .dead, .dead, .dead, .dead, .dead, .dead, .dead, .dead, .dead, .dead, .dead, .dead, .dead, .dead, .dead, .dead, .dead, .dead, .dead, .dead, .dead, .dead, .dead, .dead, .dead, .dead, .dead, .dead]
abbrev x29_0 (v0 v3 : AV) : Env := [v0, .dead, .dead, v3, .dead, .dead, .dead, .dead, .dead, .dead, .dead, .dead, .dead, .dead, .dead, .dead, .dead, .dead, .dead, .dead, .dead, .dead, .dead, .dead, .dead, .dead, .dead, .dead, .dead, .dead, .dead, .dead, .dead, .dead, .dead, .dead, .dead, .dead, .dead, .dead, .dead, .dead, .dead, .dead, .dead, .dead, .dead, .dead, .dead, .dead, .dead, .dead]
def s29_b0 : SCode :=
  .seq (
    .seq (
      .region [
        ⟨some 24, none, [], .p (.mv (.t 4))⟩,
        ⟨some 25, none, [], .p (.bin .lss (.t 24) (.c (.int .i64 8)))⟩]) (
    .cond (.t 25) (
      .skip) (
      .exit 0))) (
  .seq (
    .block 1 (
      .region [
        ⟨some 28, none, [], .p (.mv (.t 3))⟩,
        ⟨some 29, none, [], .p (.bin .mul (.c (u64 256#64)) (.t 28))⟩,
        ⟨some 30, none, [], .p (.mv (.t 0))⟩,
        ⟨some 31, none, [], .p (.nilChk (.t 30))⟩,
        ⟨some 32, none, [], .p (.faddr 0 (.t 31))⟩,
        ⟨some 33, none, [], .r (.load1 (.t 32))⟩,
        ⟨some 34, none, [], .p (.mv (.t 0))⟩,
        ⟨some 35, none, [], .p (.nilChk (.t 34))⟩,
        ⟨some 36, none, [], .p (.faddr 1 (.t 35))⟩,
        ⟨some 37, none, [], .r (.load1 (.t 36))⟩,
        ⟨some 38, none, [], .p (.mv (.t 4))⟩,
        ⟨some 39, none, [], .p (.bin .add (.t 37) (.t 38))⟩,
        ⟨some 40, none, [], .p (.idxStr (.t 33) (.t 39))⟩,
        ⟨some 41, none, [], .p (.conv .u64 (.t 40))⟩,
        ⟨some 42, none, [], .p (.bin .add (.t 29) (.t 41))⟩,
        ⟨some 3, none, [], .p (.mv (.t 42))⟩])) (
  .region [
    ⟨some 26, none, [], .p (.mv (.t 4))⟩,
    ⟨some 27, none, [], .p (.bin .add (.t 26) (.c (.int .i64 1)))⟩,
    ⟨some 4, none, [], .p (.mv (.t 27))⟩]))

def s29 : SFunc := ⟨
  .seq (
    .region [
      ⟨some 2, none, [], .p (.mv (.c (u64 0#64)))⟩]) (
  .seq (
    .seq (
      .region [
        ⟨some 5, none, [], .p (.mv (.t 0))⟩,
        ⟨some 6, none, [], .p (.nilChk (.t 5))⟩,
        ⟨some 7, none, [], .p (.faddr 2 (.t 6))⟩,
        ⟨some 8, none, [], .r (.load1 (.t 7))⟩,
        ⟨some 9, none, [], .p (.bin .neq (.t 8) (.c (.int .i64 0)))⟩]) (
    .cond (.t 9) (
      .seq (
        .region [
          ⟨some 2, none, [], .p (.mv (.c (u64 0#64)))⟩]) (
      .ret)) (
      .skip))) (
  .seq (
    .seq (
      .region [
        ⟨some 10, none, [], .p (.mv (.t 0))⟩,
        ⟨some 11, none, [], .p (.nilChk (.t 10))⟩,
        ⟨some 12, none, [], .p (.faddr 0 (.t 11))⟩,
        ⟨some 13, none, [], .r (.load1 (.t 12))⟩,
        ⟨some 14, none, [], .p (.lenV false (.t 13))⟩,
        ⟨some 15, none, [], .p (.mv (.t 0))⟩,
        ⟨some 16, none, [], .p (.nilChk (.t 15))⟩,
        ⟨some 17, none, [], .p (.faddr 1 (.t 16))⟩,
        ⟨some 18, none, [], .r (.load1 (.t 17))⟩,
        ⟨some 19, none, [], .p (.bin .sub (.t 14) (.t 18))⟩,
        ⟨some 20, none, [], .p (.bin .lss (.t 19) (.c (.int .i64 8)))⟩]) (
    .cond (.t 20) (
      .seq (
        .region [
          ⟨some 21, none, [], .p (.mv (.t 0))⟩,
          ⟨some 22, none, [], .p (.nilChk (.t 21))⟩,
          ⟨some 23, none, [], .p (.faddr 2 (.t 22))⟩,
          ⟨none, none, [], .w (.store1 (.t 23) (.c (.int .i64 3)))⟩]) (
      .seq (
        .region [
          ⟨some 2, none, [], .p (.mv (.c (u64 0#64)))⟩]) (
      .ret))) (
      .skip))) (
  .seq (
    .region [
      ⟨some 3, none, [], .p (.mv (.c (u64 0#64)))⟩]) (
  .seq (
    .seq (
      .region [
        ⟨some 4, none, [], .p (.mv (.c (.int .i64 0)))⟩]) (
    .block 0 (
      .loop k29_0 a29_0 s29_b0))) (
  .seq (
    .region [
      ⟨some 43, none, [], .p (.mv (.t 0))⟩,
      ⟨some 44, none, [], .p (.mv (.t 0))⟩,
      ⟨some 45, none, [], .p (.nilChk (.t 44))⟩,
      ⟨some 46, none, [], .p (.faddr 1 (.t 45))⟩,
      ⟨some 47, none, [], .r (.load1 (.t 46))⟩,
      ⟨some 48, none, [], .p (.bin .add (.t 47) (.c (.int .i64 8)))⟩,
      ⟨some 49, none, [], .p (.nilChk (.t 43))⟩,
      ⟨some 50, none, [], .p (.faddr 1 (.t 49))⟩,
      ⟨none, none, [], .w (.store1 (.t 50) (.t 48))⟩]) (
  .seq (
    .region [
      ⟨some 51, none, [], .p (.mv (.t 3))⟩,
      ⟨some 2, none, [], .p (.mv (.t 51))⟩]) (
  .ret))))))),
  52, [Sum.inl 2]⟩

-- 30 calls [26]
def s30 (n26 : Nat) : SFunc := ⟨
  .seq (
    .region [
      ⟨some 4, none, [], .p (.mv (.c (.int .i64 0)))⟩]) (
  .seq (
    .region [
      ⟨some 6, none, [], .p (.mv (.t 0))⟩,
      ⟨some 7, none, [], .call 4004 4 false (.f n26) [.t 6]⟩,
      ⟨some 5, none, [], .p (.mv (.t 7))⟩]) (
  .seq (
    .seq (
      .region [
        ⟨some 8, none, [], .p (.mv (.t 0))⟩,
        ⟨some 9, none, [], .p (.eqn .ptr false (.t 8) (.c (.ptr none)))⟩,
        ⟨some 10, none, [], .p (.mv (.t 9))⟩,
        ⟨some 11, some (10, false), [], .p (.mv (.t 0))⟩,
        ⟨some 12, some (10, false), [], .p (.nilChk (.t 11))⟩,
        ⟨some 13, some (10, false), [], .p (.faddr 1 (.t 12))⟩,
        ⟨some 14, some (10, false), [], .r (.load1 (.t 13))⟩,
        ⟨some 15, some (10, false), [], .p (.bin .neq (.t 14) (.c (.int .i64 0)))⟩,
        ⟨some 16, none, [], .p (.pick (.t 10) (.c (.bool true)) (.t 15))⟩]) (
    .cond (.t 16) (
      .seq (
        .region [
          ⟨some 4, none, [], .p (.mv (.c (.int .i64 0)))⟩]) (
      .ret)) (
      .skip))) (
  .seq (
    .seq (
      .region [
        ⟨some 17, none, [], .p (.mv (.t 1))⟩,
        ⟨some 18, none, [], .p (.bin .lss (.t 17) (.c (.int .i64 1)))⟩,
        ⟨some 19, none, [], .p (.mv (.t 18))⟩,
        ⟨some 20, some (19, false), [], .p (.mv (.t 5))⟩,
        ⟨some 21, some (19, false), [], .p (.mv (.t 1))⟩,
        ⟨some 22, some (19, false), [], .p (.conv .u64 (.t 21))⟩,
        ⟨some 23, some (19, false), [], .p (.bin .geq (.t 20) (.t 22))⟩,
        ⟨some 24, none, [], .p (.pick (.t 19) (.c (.bool true)) (.t 23))⟩]) (
    .cond (.t 24) (
      .seq (
        .region [
          ⟨some 25, none, [], .p (.mv (.t 0))⟩,
          ⟨some 26, none, [], .p (.nilChk (.t 25))⟩,
          ⟨some 27, none, [], .p (.faddr 1 (.t 26))⟩,
          ⟨none, none, [], .w (.store1 (.t 27) (.c (.int .i64 4)))⟩]) (
      .seq (
        .region [
          ⟨some 4, none, [], .p (.mv (.c (.int .i64 0)))⟩]) (
      .ret))) (
      .skip))) (
  .seq (
    .region [
      ⟨some 28, none, [], .p (.mv (.t 5))⟩,
      ⟨some 29, none, [], .p (.conv .i64 (.t 28))⟩,
      ⟨some 4, none, [], .p (.mv (.t 29))⟩]) (
  .ret))))),
  30, [Sum.inl 4]⟩

-- 31 calls [29]
def s31 (n29 : Nat) : SFunc := ⟨
  .seq (
    .region [
      ⟨some 4, none, [], .p (.mv (.c (.int .i64 0)))⟩]) (
  .seq (
    .region [
      ⟨some 6, none, [], .p (.mv (.t 0))⟩,
      ⟨some 7, none, [], .call 4004 4 false (.f n29) [.t 6]⟩,
      ⟨some 5, none, [], .p (.mv (.t 7))⟩]) (
  .seq (
    .seq (
      .region [
        ⟨some 8, none, [], .p (.mv (.t 0))⟩,
        ⟨some 9, none, [], .p (.nilChk (.t 8))⟩,
        ⟨some 10, none, [], .p (.faddr 2 (.t 9))⟩,
        ⟨some 11, none, [], .r (.load1 (.t 10))⟩,
        ⟨some 12, none, [], .p (.bin .neq (.t 11) (.c (.int .i64 0)))⟩]) (
    .cond (.t 12) (
      .seq (
        .region [
          ⟨some 4, none, [], .p (.mv (.c (.int .i64 0)))⟩]) (
      .ret)) (
      .skip))) (
  .seq (
    .seq (
      .region [
        ⟨some 13, none, [], .p (.mv (.t 1))⟩,
        ⟨some 14, none, [], .p (.bin .lss (.t 13) (.c (.int .i64 1)))⟩,
        ⟨some 15, none, [], .p (.mv (.t 14))⟩,
        ⟨some 16, some (15, false), [], .p (.mv (.t 5))⟩,
        ⟨some 17, some (15, false), [], .p (.mv (.t 1))⟩,
        ⟨some 18, some (15, false), [], .p (.conv .u64 (.t 17))⟩,
        ⟨some 19, some (15, false), [], .p (.bin .geq (.t 16) (.t 18))⟩,
        ⟨some 20, none, [], .p (.pick (.t 15) (.c (.bool true)) (.t 19))⟩]) (
    .cond (.t 20) (
      .seq (
        .region [
          ⟨some 21, none, [], .p (.mv (.t 0))⟩,
          ⟨some 22, none, [], .p (.nilChk (.t 21))⟩,
          ⟨some 23, none, [], .p (.faddr 2 (.t 22))⟩,
          ⟨none, none, [], .w (.store1 (.t 23) (.c (.int .i64 4)))⟩]) (
      .seq (
        .region [
          ⟨some 4, none, [], .p (.mv (.c (.int .i64 0)))⟩]) (
      .ret))) (
      .skip))) (
  .seq (
    .region [
      ⟨some 24, none, [], .p (.mv (.t 5))⟩,
      ⟨some 25, none, [], .p (.conv .i64 (.t 24))⟩,
      ⟨some 4, none, [], .p (.mv (.t 25))⟩]) (
  .ret))))),
  26, [Sum.inl 4]⟩

-- 32 calls [29]
def s32 (n29 : Nat) : SFunc := ⟨
  .seq (
    .region [
      ⟨some 2, none, [], .p (.mv (.c (.str [])))⟩]) (
  .seq (
    .region [
      ⟨some 5, none, [], .p (.mv (.t 0))⟩,
      ⟨some 6, none, [], .call 4004 4 false (.f n29) [.t 5]⟩,
      ⟨some 3, none, [], .p (.mv (.t 6))⟩]) (
  .seq (
    .seq (
      .region [
        ⟨some 7, none, [], .p (.mv (.t 0))⟩,
        ⟨some 8, none, [], .p (.nilChk (.t 7))⟩,
        ⟨some 9, none, [], .p (.faddr 2 (.t 8))⟩,
        ⟨some 10, none, [], .r (.load1 (.t 9))⟩,
        ⟨some 11, none, [], .p (.bin .neq (.t 10) (.c (.int .i64 0)))⟩]) (
    .cond (.t 11) (
      .seq (
        .region [
          ⟨some 2, none, [], .p (.mv (.c (.str [])))⟩]) (
      .ret)) (
      .skip))) (
  .seq (
    .seq (
      .region [
        ⟨some 12, none, [], .p (.mv (.t 3))⟩,
        ⟨some 13, none, [], .p (.mv (.t 0))⟩,
        ⟨some 14, none, [], .p (.nilChk (.t 13))⟩,
        ⟨some 15, none, [], .p (.faddr 0 (.t 14))⟩,
        ⟨some 16, none, [], .r (.load1 (.t 15))⟩,
        ⟨some 17, none, [], .p (.lenV false (.t 16))⟩,
        ⟨some 18, none, [], .p (.mv (.t 0))⟩,
        ⟨some 19, none, [], .p (.nilChk (.t 18))⟩,
        ⟨some 20, none, [], .p (.faddr 1 (.t 19))⟩,
        ⟨some 21, none, [], .r (.load1 (.t 20))⟩,
        ⟨some 22, none, [], .p (.bin .sub (.t 17) (.t 21))⟩,
        ⟨some 23, none, [], .p (.conv .u64 (.t 22))⟩,
        ⟨some 24, none, [], .p (.bin .gtr (.t 12) (.t 23))⟩]) (
    .cond (.t 24) (
      .seq (
        .region [
          ⟨some 25, none, [], .p (.mv (.t 0))⟩,
          ⟨some 26, none, [], .p (.nilChk (.t 25))⟩,
          ⟨some 27, none, [], .p (.faddr 2 (.t 26))⟩,
          ⟨none, none, [], .w (.store1 (.t 27) (.c (.int .i64 3)))⟩]) (
      .seq (
        .region [
          ⟨some 2, none, [], .p (.mv (.c (.str [])))⟩]) (
      .ret))) (
      .skip))) (
  .seq (
    .region [
      ⟨some 28, none, [], .p (.mv (.t 0))⟩,
      ⟨some 29, none, [], .p (.nilChk (.t 28))⟩,
      ⟨some 30, none, [], .p (.faddr 0 (.t 29))⟩,
      ⟨some 31, none, [], .r (.load1 (.t 30))⟩,
      ⟨some 32, none, [], .p (.mv (.t 0))⟩,
      ⟨some 33, none, [], .p (.nilChk (.t 32))⟩,
      ⟨some 34, none, [], .p (.faddr 1 (.t 33))⟩,
      ⟨some 35, none, [], .r (.load1 (.t 34))⟩,
      ⟨some 36, none, [], .p (.mv (.t 0))⟩,
      ⟨some 37, none, [], .p (.nilChk (.t 36))⟩,
      ⟨some 38, none, [], .p (.faddr 1 (.t 37))⟩,
      ⟨some 39, none, [], .r (.load1 (.t 38))⟩,
      ⟨some 40, none, [], .p (.mv (.t 3))⟩,
      ⟨some 41, none, [], .p (.conv .i64 (.t 40))⟩,
      ⟨some 42, none, [], .p (.bin .add (.t 39) (.t 41))⟩,
      ⟨some 43, none, [], .p (.slcStr (.t 31) (some (.t 35)) (some (.t 42)))⟩,
      ⟨some 4, none, [], .p (.mv (.t 43))⟩]) (
  .seq (
    .region [
      ⟨some 44, none, [], .p (.mv (.t 0))⟩,
      ⟨some 45, none, [], .p (.mv (.t 0))⟩,
      ⟨some 46, none, [], .p (.nilChk (.t 45))⟩,
      ⟨some 47, none, [], .p (.faddr 1 (.t 46))⟩,
      ⟨some 48, none, [], .r (.load1 (.t 47))⟩,
      ⟨some 49, none, [], .p (.mv (.t 3))⟩,
      ⟨some 50, none, [], .p (.conv .i64 (.t 49))⟩,
      ⟨some 51, none, [], .p (.bin .add (.t 48) (.t 50))⟩,
      ⟨some 52, none, [], .p (.nilChk (.t 44))⟩,
      ⟨some 53, none, [], .p (.faddr 1 (.t 52))⟩,
      ⟨none, none, [], .w (.store1 (.t 53) (.t 51))⟩]) (
  .seq (
    .region [
      ⟨some 54, none, [], .p (.mv (.t 4))⟩,
      ⟨some 2, none, [], .p (.mv (.t 54))⟩]) (
  .ret))))))),
  55, [Sum.inl 2]⟩

-- 33 calls []
def s33 : SFunc := ⟨
  .seq (
    .region [
      ⟨some 2, none, [], .p (.mv (.c (.int .i64 0)))⟩]) (
  .seq (
    .seq (
      .region [
        ⟨some 3, none, [], .p (.mv (.t 0))⟩,
        ⟨some 4, none, [], .p (.nilChk (.t 3))⟩,
        ⟨some 5, none, [], .p (.faddr 2 (.t 4))⟩,
        ⟨some 6, none, [], .r (.load1 (.t 5))⟩,
        ⟨some 7, none, [], .p (.bin .neq (.t 6) (.c (.int .i64 0)))⟩]) (
    .cond (.t 7) (
      .seq (
        .region [
          ⟨some 8, none, [], .p (.mv (.t 0))⟩,
          ⟨some 9, none, [], .p (.nilChk (.t 8))⟩,
          ⟨some 10, none, [], .p (.faddr 2 (.t 9))⟩,
          ⟨some 11, none, [], .r (.load1 (.t 10))⟩,
          ⟨some 2, none, [], .p (.mv (.t 11))⟩]) (
      .ret)) (
      .skip))) (
  .seq (
    .seq (
      .region [
        ⟨some 12, none, [], .p (.mv (.t 0))⟩,
        ⟨some 13, none, [], .p (.nilChk (.t 12))⟩,
        ⟨some 14, none, [], .p (.faddr 1 (.t 13))⟩,
        ⟨some 15, none, [], .r (.load1 (.t 14))⟩,
        ⟨some 16, none, [], .p (.mv (.t 0))⟩,
        ⟨some 17, none, [], .p (.nilChk (.t 16))⟩,
        ⟨some 18, none, [], .p (.faddr 0 (.t 17))⟩,
        ⟨some 19, none, [], .r (.load1 (.t 18))⟩,
        ⟨some 20, none, [], .p (.lenV false (.t 19))⟩,
        ⟨some 21, none, [], .p (.bin .lss (.t 15) (.t 20))⟩]) (
    .cond (.t 21) (
      .seq (
        .region [
          ⟨some 2, none, [], .p (.mv (.c (.int .i64 5)))⟩]) (
      .ret)) (
      .skip))) (
  .seq (
    .region [
      ⟨some 2, none, [], .p (.mv (.c (.int .i64 0)))⟩]) (
  .ret)))),
  22, [Sum.inl 2]⟩

-- 34 calls []
def s34 : SFunc := ⟨
  .seq (
    .region [
      ⟨some 2, none, [], .p (.mv (.c (.int .i64 0)))⟩]) (
  .seq (
    .seq (
      .region [
        ⟨some 3, none, [], .p (.mv (.t 0))⟩,
        ⟨some 4, none, [], .p (.eqn .ptr false (.t 3) (.c (.ptr none)))⟩]) (
    .cond (.t 4) (
      .seq (
        .region [
          ⟨some 2, none, [], .p (.mv (.c (.int .i64 0)))⟩]) (
      .ret)) (
      .skip))) (
  .seq (
    .region [
      ⟨some 5, none, [], .p (.mv (.t 0))⟩,
      ⟨some 6, none, [], .p (.nilChk (.t 5))⟩,
      ⟨some 7, none, [], .p (.faddr 0 (.t 6))⟩,
      ⟨some 8, none, [], .r (.load1 (.t 7))⟩,
      ⟨some 9, none, [], .p (.lenV false (.t 8))⟩,
      ⟨some 2, none, [], .p (.mv (.t 9))⟩]) (
  .ret))),
  10, [Sum.inl 2]⟩

-- 40 calls []
def s40 : SFunc := ⟨
  .seq (
    .region [
      ⟨some 4, none, [], .p (.mv (.c (.str [])))⟩]) (
  .seq (
    .seq (
      .region [
        ⟨some 6, none, [], .p (.mv (.t 0))⟩,
        ⟨some 7, none, [], .p (.eqn .ptr false (.t 6) (.c (.ptr none)))⟩]) (
    .cond (.t 7) (
      .seq (
        .region [
          ⟨some 4, none, [], .p (.mv (.c (.str [])))⟩]) (
      .ret)) (
      .skip))) (
  .seq (
    .seq (
      .region [
        ⟨some 8, none, [], .p (.mv (.t 0))⟩,
        ⟨some 9, none, [], .p (.nilChk (.t 8))⟩,
        ⟨some 10, none, [], .p (.faddr 1 (.t 9))⟩,
        ⟨some 11, none, [], .r (.load1 (.t 10))⟩,
        ⟨some 12, none, [], .p (.bin .eql (.t 11) (.c (.int .i64 0)))⟩,
        ⟨some 13, none, [], .p (.mv (.t 12))⟩,
        ⟨some 14, some (13, true), [], .p (.mv (.t 1))⟩,
        ⟨some 15, some (13, true), [], .p (.mv (.t 0))⟩,
        ⟨some 16, some (13, true), [], .p (.nilChk (.t 15))⟩,
        ⟨some 17, some (13, true), [], .p (.faddr 0 (.t 16))⟩,
        ⟨some 18, some (13, true), [], .r (.load1 (.t 17))⟩,
        ⟨some 19, some (13, true), [], .p (.lenV false (.t 18))⟩,
        ⟨some 20, some (13, true), [], .p (.conv .u64 (.t 19))⟩,
        ⟨some 21, some (13, true), [], .p (.bin .gtr (.t 14) (.t 20))⟩,
        ⟨some 22, none, [], .p (.pick (.t 13) (.t 21) (.c (.bool false)))⟩]) (
    .cond (.t 22) (
      .region [
        ⟨some 23, none, [], .p (.mv (.t 0))⟩,
        ⟨some 24, none, [], .p (.nilChk (.t 23))⟩,
        ⟨some 25, none, [], .p (.faddr 1 (.t 24))⟩,
        ⟨none, none, [], .w (.store1 (.t 25) (.c (.int .i64 3)))⟩]) (
      .skip))) (
  .seq (
    .seq (
      .region [
        ⟨some 26, none, [], .p (.mv (.t 0))⟩,
        ⟨some 27, none, [], .p (.nilChk (.t 26))⟩,
        ⟨some 28, none, [], .p (.faddr 1 (.t 27))⟩,
        ⟨some 29, none, [], .r (.load1 (.t 28))⟩,
        ⟨some 30, none, [], .p (.bin .neq (.t 29) (.c (.int .i64 0)))⟩]) (
    .cond (.t 30) (
      .seq (
        .region [
          ⟨some 4, none, [], .p (.mv (.c (.str [])))⟩]) (
      .ret)) (
      .skip))) (
  .seq (
    .region [
      ⟨some 31, none, [], .p (.mv (.t 0))⟩,
      ⟨some 32, none, [], .p (.nilChk (.t 31))⟩,
      ⟨some 33, none, [], .p (.faddr 0 (.t 32))⟩,
      ⟨some 34, none, [], .r (.load1 (.t 33))⟩,
      ⟨some 35, none, [], .p (.mv (.t 1))⟩,
      ⟨some 36, none, [], .p (.slcStr (.t 34) none (some (.t 35)))⟩,
      ⟨some 5, none, [], .p (.mv (.t 36))⟩]) (
  .seq (
    .region [
      ⟨some 37, none, [], .p (.mv (.t 0))⟩,
      ⟨some 38, none, [], .p (.mv (.t 0))⟩,
      ⟨some 39, none, [], .p (.nilChk (.t 38))⟩,
      ⟨some 40, none, [], .p (.faddr 0 (.t 39))⟩,
      ⟨some 41, none, [], .r (.load1 (.t 40))⟩,
      ⟨some 42, none, [], .p (.mv (.t 1))⟩,
      ⟨some 43, none, [], .p (.slcStr (.t 41) (some (.t 42)) none)⟩,
      ⟨some 44, none, [], .p (.nilChk (.t 37))⟩,
      ⟨some 45, none, [], .p (.faddr 0 (.t 44))⟩,
      ⟨none, none, [], .w (.store1 (.t 45) (.t 43))⟩]) (
  .seq (
    .region [
      ⟨some 46, none, [], .p (.mv (.t 5))⟩,
      ⟨some 4, none, [], .p (.mv (.t 46))⟩]) (
  .ret))))))),
  47, [Sum.inl 4]⟩

/-- A number as eight bytes, the highest first. -/
def be8 (n : BitVec 64) : List UInt8 := W.tx true [(n >>> 32).setWidth 32, n.setWidth 32]
theorem be8_len (n : BitVec 64) : (be8 n).length = 8 := by rw [be8, W.tx_len]; rfl

theorem num_ev {SP : SProg} {n20 n38 : Nat} (h20 : SP.fn n20 = some (s20 n38)) (h38 : SP.fn n38 = some W.s23) (k : Nat) (M : Mem) (n : BitVec 64) : callFn SP (k + 2) n20 [u64 n] M = some (.str (be8 n), [], M) := by
  rw [call_fn (h20.trans rfl) (by simp)]
  simp (disch := omega) [if_pos]
  rw [W.frombig_ev h38]
  case hv => exact WS.top' (l := [(n >>> 32).setWidth 32, n.setWidth 32]) rfl (by simp) rfl rfl
  case hN => simp
  simp [be8]

theorem text_ev {SP : SProg} {n20 n22 n38 : Nat} (h20 : SP.fn n20 = some (s20 n38)) (h22 : SP.fn n22 = some (s22 n20)) (h38 : SP.fn n38 = some W.s23) (k : Nat) (M : Mem) (s : List UInt8) (hs : s.length < 2 ^ 48) :
    callFn SP (k + 3) n22 [.str s] M = some (.str (be8 (BitVec.ofNat 64 s.length) ++ s), [], M) := by
  rw [call_fn (h22.trans rfl) (by simp)]
  simp (disch := omega) [if_pos, num_ev h20 h38, be8_len]

/-! ### the document's numbers -/
def n8 (x : BitVec 64) : Nat → BitVec 64
  | 0 => x
  | k + 1 => n8 x k / 256#64
def g8 (x : BitVec 64) (k : Nat) : UInt8 := low8 (n8 x k % 256#64)
theorem n8_nat (x : BitVec 64) : ∀ k, (n8 x k).toNat = x.toNat / 256 ^ k
  | 0 => by simp [n8]
  | k + 1 => by
    rw [n8, BitVec.toNat_udiv, n8_nat x k, Nat.div_div_eq_div_mul, Nat.pow_succ]; rfl
theorem g8_eq (x : BitVec 64) (k : Nat) : g8 x k = low8 (x >>> (8 * k)) := by
  apply b8_eq
  rw [g8, low8_toNat, low8_toNat, BitVec.toNat_umod, n8_nat, BitVec.toNat_ushiftRight, Nat.shiftRight_eq_div_pow, Nat.pow_mul]
  show x.toNat / 256 ^ k % 256 % 256 = x.toNat / 256 ^ k % 256
  rw [Nat.mod_mod]
/-- Eight bytes of which k are laid, from the last one on. -/
def d8 (x : BitVec 64) (k : Nat) : List UInt8 := (List.range 8).map fun p => if 7 - p < k then g8 x (7 - p) else 0
theorem d8_len (x : BitVec 64) (k : Nat) : (d8 x k).length = 8 := by simp [d8]
theorem d8_set (x : BitVec 64) (k : Nat) (h : k < 8) : (d8 x k).set (7 - k) (g8 x k) = d8 x (k + 1) := by
  match k, h with
  | 0, _ => rfl
  | 1, _ => rfl
  | 2, _ => rfl
  | 3, _ => rfl
  | 4, _ => rfl
  | 5, _ => rfl
  | 6, _ => rfl
  | 7, _ => rfl
theorem hi_low (x : BitVec 64) (j : Nat) (h : j ≤ 24) : low8 ((x >>> 32).setWidth 32 >>> j) = low8 (x >>> (32 + j)) := by
  apply b8_eq
  rw [low8_toNat, low8_toNat, BitVec.toNat_ushiftRight, BitVec.toNat_setWidth, BitVec.toNat_ushiftRight, BitVec.toNat_ushiftRight]
  simp only [Nat.shiftRight_eq_div_pow]
  have hx := x.isLt
  have : x.toNat / 2 ^ 32 < 2 ^ 32 := by omega
  rw [Nat.mod_eq_of_lt this, Nat.div_div_eq_div_mul, ← Nat.pow_add]
theorem lo_low (x : BitVec 64) (j : Nat) (h : j ≤ 24) : low8 (x.setWidth 32 >>> j) = low8 (x >>> j) := by
  apply b8_eq
  rw [low8_toNat, low8_toNat, BitVec.toNat_ushiftRight, BitVec.toNat_setWidth, BitVec.toNat_ushiftRight]
  simp only [Nat.shiftRight_eq_div_pow]
  have e : (2 : Nat) ^ 32 = 2 ^ j * 2 ^ (32 - j) := by rw [← Nat.pow_add]; congr 1; omega
  have e2 : (2 : Nat) ^ (32 - j) = 256 * 2 ^ (24 - j) := by
    rw [show (256 : Nat) = 2 ^ 8 from rfl, ← Nat.pow_add]; congr 1; omega
  rw [e, Nat.mod_mul_right_div_self, e2, Nat.mod_mul_right_mod]
theorem d8_all (x : BitVec 64) : d8 x 8 = be8 x := by
  show [g8 x 7, g8 x 6, g8 x 5, g8 x 4, g8 x 3, g8 x 2, g8 x 1, g8 x 0] = _
  have h0 := lo_low x 0 (by omega)
  have h4 := hi_low x 0 (by omega)
  simp only [BitVec.ushiftRight_zero] at h0 h4
  simp only [g8_eq, be8, W.tx, W.by4, if_true, List.cons_append, List.nil_append, hi_low x 24 (by omega), hi_low x 16 (by omega), hi_low x 8 (by omega), lo_low x 24 (by omega), lo_low x 16 (by omega), lo_low x 8 (by omega), h0, h4]
  simp

theorem l21 (C : Det.Calls) (M : Mem) (x : BitVec 64) (j : Nat) : ∀ (k n : Nat), k + j = 8 → j < n →
    fgt a21_0 (rnd0 (some (e21_0 (u64 (n8 x k)) (.ptr (some ⟨M.length, 4000, 8, 0⟩)) (.int .i64 (7 - (k : Int))), mk [(4000, .cells ((d8 x k).map byteAV) true true)] :: M)) k21_0 C s21_b0 n) =
      some (.exit 0, x21_0 (.ptr (some ⟨M.length, 4000, 8, 0⟩)), mk [(4000, .cells ((be8 x).map byteAV) true true)] :: M) := by
  induction j with
  | zero =>
    intro k n h hn
    obtain rfl : k = 8 := by omega
    rw [rnd0_some, d8_all]
    conv => lhs; arg 2; arg 1; rw [s21_b0]
    simp
  | succ j ih0 =>
    intro k n h hn
    obtain ⟨n, rfl⟩ : ∃ m, n = m + 1 := ⟨n - 1, by omega⟩
    have ih := ih0 (k + 1) n (by omega) (by omega)
    have hb := d8_set x k (by omega)
    have hl := d8_len x k
    have hg : low8 (n8 x k % 256#64) = g8 x k := rfl
    rw [show n8 x (k + 1) = n8 x k / 256#64 from rfl] at ih
    have t0 : (7 - (k : Int)).toNat = 7 - k := by omega
    have t1 : 7 - (k : Int) - 1 = 7 - ((k : Int) + 1) := by omega
    have t2 : (k : Int) ≤ 7 := by omega
    have t3 : (0 : Int) ≤ 7 - k := by omega
    rw [rnd0_some]
    conv => lhs; arg 2; arg 1; rw [s21_b0]
    simpa (disch := omega) [-List.map_set, t0, t1, t2, t3, hl, hb, hg, if_pos, IntWalk.i64_in] using ih

theorem refnum_ev {SP : SProg} {n21 : Nat} (h21 : SP.fn n21 = some s21) (k : Nat) (M : Mem) (x : BitVec 64) : callFn SP (k + 1) n21 [u64 x] M = some (.str (be8 x), [], M) := by
  rw [call_fn (h21.trans rfl) (by simp)]
  have hl := l21 (callFn SP k) M x 8 0 9 rfl (by omega)
  have hz : (d8 x 0).map byteAV = [byteAV 0, byteAV 0, byteAV 0, byteAV 0, byteAV 0, byteAV 0, byteAV 0, byteAV 0] := rfl
  rw [hz, show n8 x 0 = x from rfl] at hl
  have hn := be8_len x
  simp (disch := omega) [if_pos]
  rw [ev_loop 9 (by simp) hl (by omega)]
  simp (disch := omega) [if_pos, hn]

theorem reftext_ev {SP : SProg} {n21 n23 : Nat} (h21 : SP.fn n21 = some s21) (h23 : SP.fn n23 = some (s23 n21)) (k : Nat) (M : Mem) (s : List UInt8) (hs : s.length < 2 ^ 48) :
    callFn SP (k + 2) n23 [.str s] M = some (.str (be8 (BitVec.ofNat 64 s.length) ++ s), [], M) := by
  rw [call_fn (h23.trans rfl) (by simp)]
  simp (disch := omega) [if_pos, refnum_ev h21, be8_len]

/-! ### readers -/
/-- What is left, and the error that was met. -/
abbrev Rd := List UInt8 × Int
def rc (r : Rd) (fl : Bool) : Con := .cells [.str r.1, .int .i64 r.2] true fl
def rtake (n : BitVec 64) (r : Rd) : List UInt8 × Rd :=
  if r.2 = 0 then (if r.1.length < n.toNat then ([], (r.1, 3)) else (r.1.take n.toNat, (r.1.drop n.toNat, 0))) else ([], r)

theorem new_ev {SP : SProg} {n24 : Nat} (h24 : SP.fn n24 = some s24) (k : Nat) (M : Mem) (s : List UInt8) : callFn SP (k + 1) n24 [.str s] M = some (.ptr (some ⟨M.length, 0, 2, 0⟩), [rc (s, 0) true], M) := by
  rw [call_fn (h24.trans rfl) (by simp)]
  simp [rc]

theorem take_ev {SP : SProg} {n40 : Nat} (h40 : SP.fn n40 = some s40) (k : Nat) (M : Mem) (d id : Nat) (r : Rd) (fl : Bool) (n : BitVec 64) (hd : d < M.length) (hr : r.1.length < 2 ^ 48) (hg : ∀ o, get M ⟨d, id, 2, o⟩ = some (rc r fl)) :
    callFn SP (k + 1) n40 [.ptr (some ⟨d, id, 2, 0⟩), u64 n] M = some (.str (rtake n r).1, [], put M d id (rc (rtake n r).2 fl)) := by
  obtain ⟨s, bad⟩ := r
  have hs : put M d id (rc (s, bad) fl) = M := put_self _ _ _ _ (get_ent (hg 0)).1
  have hn1 : d ≠ M.length := by omega
  simp only [rc] at hg
  rw [call_fn (h40.trans rfl) (by simp)]
  simp only [rtake]
  by_cases hb : bad = 0
  · subst hb
    have h1 : (BitVec.ofNat 64 s.length).toNat = s.length := by
      simp only at hr
      rw [BitVec.toNat_ofNat]; exact Nat.mod_eq_of_lt (by omega)
    by_cases hl : s.length < n.toNat
    · have hc : BitVec.ofNat 64 s.length < n := by rw [BitVec.lt_def, h1]; exact hl
      simp (disch := omega) [get_low, put_low, get_sput, put_sput, hd, hg, hn1, hl, hc, if_pos, rc]
    · have hc : ¬ BitVec.ofNat 64 s.length < n := by rw [BitVec.lt_def, h1]; exact hl
      simp (disch := omega) [get_low, put_low, get_sput, put_sput, hd, hg, hn1, hl, hc, if_pos, rc]
  · rw [if_neg hb, hs]
    simp (disch := omega) [get_low, put_low, get_sput, put_sput, hd, hg, hn1, hb, if_pos]

def two (t : List UInt8) : BitVec 64 := (W.wat true t 0).setWidth 64 <<< 32 ||| (W.wat true t 1).setWidth 64
def rnum (r : Rd) : BitVec 64 × Rd := (if (rtake 8#64 r).1 = [] then 0 else two (rtake 8#64 r).1, (rtake 8#64 r).2)

theorem rtake8_len (r : Rd) : (rtake 8#64 r).1 = [] ∨ (rtake 8#64 r).1.length = 8 := by
  unfold rtake
  split
  · split
    · exact .inl rfl
    · rename_i h
      right
      simp at h ⊢
      omega
  · exact .inl rfl

theorem rnum_ev {SP : SProg} {n26 n40 n41 n43 n44 : Nat} (h26 : SP.fn n26 = some (s26 n40 n41)) (h40 : SP.fn n40 = some s40) (h41 : SP.fn n41 = some (W.s14 n43 n44)) (h43 : SP.fn n43 = some W.s25) (h44 : SP.fn n44 = some W.s27)
    (k : Nat) (M : Mem) (d id : Nat) (r : Rd) (fl : Bool) (hd : d < M.length) (hr : r.1.length < 2 ^ 48) (hg : ∀ o, get M ⟨d, id, 2, o⟩ = some (rc r fl)) :
    callFn SP (k + 4) n26 [.ptr (some ⟨d, id, 2, 0⟩)] M = some (u64 (rnum r).1, [], put M d id (rc (rnum r).2 fl)) := by
  have hn1 : d ≠ M.length := by omega
  have ht := take_ev h40 (k + 2) (mk [] :: M) d id r fl 8#64 (by simp; omega) hr (fun o => by rw [get_low (by exact hd)]; exact hg o)
  rw [put_low hd] at ht
  rw [call_fn (h26.trans rfl) (by simp)]
  unfold rnum
  obtain ⟨t, r', he⟩ : ∃ t r', rtake 8#64 r = (t, r') := ⟨_, _, rfl⟩
  have hlen := rtake8_len r
  rw [he] at ht hlen ⊢
  simp only at ht hlen ⊢
  rcases hlen with rfl | hlen
  · have hb := fun M => W.big_ev h41 h43 h44 k M [] 0 rfl (by omega)
    simp (disch := omega) [ht, hb]
  · have hb := fun M => W.big_ev h41 h43 h44 k M t 2 hlen (by omega)
    have hne : t ≠ [] := fun h => by rw [h] at hlen; simp at hlen
    rw [show tab (W.wat true t) 2 = [W.wat true t 0, W.wat true t 1] from rfl] at hb
    simp (disch := omega) [ht, hb, hne, two]

def rtext (r : Rd) : List UInt8 × Rd := rtake (rnum r).1 (rnum r).2
def rbelow (bound : Int) (r : Rd) : Int × Rd :=
  if (rnum r).2.2 = 0 then (if bound < 1 ∨ BitVec.ofInt 64 bound ≤ (rnum r).1 then (0, ((rnum r).2.1, 4)) else (IntKind.wrap .i64 ((rnum r).1.toNat : Int), (rnum r).2)) else (0, (rnum r).2)
def rdone (r : Rd) : Int := if r.2 = 0 then (if r.1 = [] then 0 else 5) else r.2

theorem rtake_len (n : BitVec 64) (r : Rd) : (rtake n r).2.1.length ≤ r.1.length := by
  unfold rtake
  split
  · split
    · exact Nat.le_refl _
    · simp
  · exact Nat.le_refl _
theorem rnum_len (r : Rd) : (rnum r).2.1.length ≤ r.1.length := rtake_len _ _

theorem rtext_ev {SP : SProg} {n25 n26 n40 n41 n43 n44 : Nat} (h25 : SP.fn n25 = some (s25 n26 n40)) (h26 : SP.fn n26 = some (s26 n40 n41)) (h40 : SP.fn n40 = some s40) (h41 : SP.fn n41 = some (W.s14 n43 n44)) (h43 : SP.fn n43 = some W.s25) (h44 : SP.fn n44 = some W.s27)
    (k : Nat) (M : Mem) (d id : Nat) (r : Rd) (fl : Bool) (hd : d < M.length) (hr : r.1.length < 2 ^ 48) (hg : ∀ o, get M ⟨d, id, 2, o⟩ = some (rc r fl)) :
    callFn SP (k + 5) n25 [.ptr (some ⟨d, id, 2, 0⟩)] M = some (.str (rtext r).1, [], put M d id (rc (rtext r).2 fl)) := by
  have hn1 : d ≠ M.length := by omega
  have ht := rnum_ev h26 h40 h41 h43 h44 k (mk [] :: M) d id r fl (by simp; omega) hr (fun o => by rw [get_low (by exact hd)]; exact hg o)
  rw [put_low hd] at ht
  have hlen := rnum_len r
  have h2 := take_ev h40 (k + 3) (mk [] :: put M d id (rc (rnum r).2 fl)) d id (rnum r).2 fl (rnum r).1 (by rw [List.length_cons, put_length]; omega) (by omega) (fun o => by rw [get_sput hd]; exact if_pos rfl)
  rw [put_sput hd] at h2
  rw [call_fn (h25.trans rfl) (by simp)]
  simp (disch := omega) [ht, h2, rtext]

theorem left_ev {SP : SProg} {n34 : Nat} (h34 : SP.fn n34 = some s34) (k : Nat) (M : Mem) (d id : Nat) (r : Rd) (fl : Bool) (hd : d < M.length) (hg : ∀ o, get M ⟨d, id, 2, o⟩ = some (rc r fl)) :
    callFn SP (k + 1) n34 [.ptr (some ⟨d, id, 2, 0⟩)] M = some (.int .i64 r.1.length, [], M) := by
  simp only [rc] at hg
  rw [call_fn (h34.trans rfl) (by simp)]
  simp (disch := omega) [get_low, hd, hg]

theorem done_ev {SP : SProg} {n27 : Nat} (h27 : SP.fn n27 = some s27) (k : Nat) (M : Mem) (d id : Nat) (r : Rd) (fl : Bool) (hd : d < M.length) (hg : ∀ o, get M ⟨d, id, 2, o⟩ = some (rc r fl)) :
    callFn SP (k + 1) n27 [.ptr (some ⟨d, id, 2, 0⟩)] M = some (.int .i64 (rdone r), [], M) := by
  simp only [rc] at hg
  rw [call_fn (h27.trans rfl) (by simp)]
  unfold rdone
  by_cases h1 : r.2 = 0
  · by_cases h2 : r.1 = []
    · simp (disch := omega) [get_low, hd, hg, h1, h2]
    · simp (disch := omega) [get_low, hd, hg, h1, h2]
  · simp (disch := omega) [get_low, hd, hg, h1]

theorem below_ev {SP : SProg} {n26 n30 n40 n41 n43 n44 : Nat} (h26 : SP.fn n26 = some (s26 n40 n41)) (h30 : SP.fn n30 = some (s30 n26)) (h40 : SP.fn n40 = some s40) (h41 : SP.fn n41 = some (W.s14 n43 n44)) (h43 : SP.fn n43 = some W.s25) (h44 : SP.fn n44 = some W.s27)
    (k : Nat) (M : Mem) (d id : Nat) (r : Rd) (fl : Bool) (bound : Int) (hd : d < M.length) (hr : r.1.length < 2 ^ 48) (hg : ∀ o, get M ⟨d, id, 2, o⟩ = some (rc r fl)) :
    callFn SP (k + 5) n30 [.ptr (some ⟨d, id, 2, 0⟩), .int .i64 bound] M = some (.int .i64 (rbelow bound r).1, [], put M d id (rc (rbelow bound r).2 fl)) := by
  have hn1 : d ≠ M.length := by omega
  have ht := rnum_ev h26 h40 h41 h43 h44 k (mk [] :: M) d id r fl (by simp; omega) hr (fun o => by rw [get_low (by exact hd)]; exact hg o)
  rw [put_low hd] at ht
  rw [call_fn (h30.trans rfl) (by simp)]
  unfold rbelow
  obtain ⟨n, ⟨s, bad⟩, he⟩ : ∃ n r', rnum r = (n, r') := ⟨_, _, rfl⟩
  rw [he] at ht ⊢
  simp only [rc] at ht ⊢
  by_cases h1 : bad = 0
  · subst h1
    by_cases h2 : bound < 1
    · simp (disch := omega) [ht, get_sput, put_sput, hd, h2, if_pos]
    · by_cases h3 : BitVec.ofInt 64 bound ≤ n
      · simp (disch := omega) [ht, get_sput, put_sput, hd, h2, h3, if_pos]
      · simp (disch := omega) [ht, get_sput, put_sput, hd, h2, h3, if_pos]
  · simp (disch := omega) [ht, get_sput, put_sput, hd, h1, if_pos]

/-! ### the document's readers: the text, how far it is read, the error that was met -/
def xc (S : List UInt8) (at_ : Nat) (bad : Int) (fl : Bool) : Con := .cells [.str S, .int .i64 at_, .int .i64 bad] true fl
def hor8 (S : List UInt8) (at_ : Nat) : Nat → BitVec 64
  | 0 => 0#64
  | k + 1 => 256#64 * hor8 S at_ k + (nth S (at_ + k)).toBitVec.setWidth 64

theorem l29 (C : Det.Calls) (M : Mem) (S : List UInt8) (at_ : Nat) (bad : Int) (d id : Nat) (fl : Bool) (hd : d < M.length) (hS : at_ + 8 ≤ S.length) (hl : S.length < 2 ^ 48) (hg : ∀ o, get M ⟨d, id, 3, o⟩ = some (xc S at_ bad fl)) (j : Nat) : ∀ (k n : Nat), k + j = 8 → j < n →
    fgt a29_0 (rnd0 (some (e29_0 (.ptr (some ⟨d, id, 3, 0⟩)) (u64 (hor8 S at_ k)) (.int .i64 k), mk [] :: M)) k29_0 C s29_b0 n) =
      some (.exit 0, x29_0 (.ptr (some ⟨d, id, 3, 0⟩)) (u64 (hor8 S at_ 8)), mk [] :: M) := by
  have hn1 : d ≠ M.length := by omega
  simp only [xc] at hg
  induction j with
  | zero =>
    intro k n h hn
    obtain rfl : k = 8 := by omega
    rw [rnd0_some]
    conv => lhs; arg 2; arg 1; rw [s29_b0]
    simp [hn1]
  | succ j ih0 =>
    intro k n h hn
    obtain ⟨n, rfl⟩ : ∃ m, n = m + 1 := ⟨n - 1, by omega⟩
    have ih := ih0 (k + 1) n (by omega) (by omega)
    rw [show hor8 S at_ (k + 1) = 256#64 * hor8 S at_ k + (nth S (at_ + k)).toBitVec.setWidth 64 from rfl] at ih
    have hk : k < 8 := by omega
    have t0 : ((at_ : Int) + (k : Int)).toNat = at_ + k := by omega
    rw [rnd0_some]
    conv => lhs; arg 2; arg 1; rw [s29_b0]
    simpa (disch := omega) [hk, get_low, hd, hg, hn1, t0, byteAt_lt, if_pos, IntWalk.i64_in] using ih

/-- How far it is read, the error. -/
abbrev Xd := Nat × Int
def xnum (S : List UInt8) (x : Xd) : BitVec 64 × Xd :=
  if x.2 = 0 then (if S.length < x.1 + 8 then (0, (x.1, 3)) else (hor8 S x.1 8, (x.1 + 8, 0))) else (0, x)

theorem number_ev {SP : SProg} {n29 : Nat} (h29 : SP.fn n29 = some s29) (k : Nat) (M : Mem) (S : List UInt8) (x : Xd) (d id : Nat) (fl : Bool) (hd : d < M.length) (hx : x.1 ≤ S.length) (hl : S.length < 2 ^ 48) (hg : ∀ o, get M ⟨d, id, 3, o⟩ = some (xc S x.1 x.2 fl)) :
    callFn SP (k + 1) n29 [.ptr (some ⟨d, id, 3, 0⟩)] M = some (u64 (xnum S x).1, [], put M d id (xc S (xnum S x).2.1 (xnum S x).2.2 fl)) := by
  obtain ⟨at_, bad⟩ := x
  simp only at hx hg
  have hs : put M d id (xc S at_ bad fl) = M := put_self _ _ _ _ (get_ent (hg 0)).1
  have hn1 : d ≠ M.length := by omega
  have hg0 := hg
  simp only [xc] at hg
  rw [call_fn (h29.trans rfl) (by simp)]
  unfold xnum
  by_cases h1 : bad = 0
  · subst h1
    by_cases h2 : S.length < at_ + 8
    · have h3 : (S.length : Int) - at_ < 8 := by omega
      simp (disch := omega) [get_low, put_low, get_sput, put_sput, hd, hg, hn1, h2, h3, if_pos, IntWalk.i64_in, xc]
    · have h3 : ¬ (S.length : Int) - at_ < 8 := by omega
      have hlp := l29 (callFn SP k) M S at_ 0 d id fl hd (by omega) hl hg0 8 0 9 rfl (by omega)
      rw [show hor8 S at_ 0 = 0#64 from rfl] at hlp
      simp (disch := omega) [get_low, put_low, get_sput, put_sput, hd, hg, hn1, h2, h3, if_pos, IntWalk.i64_in, xc]
      rw [ev_loop 9 (by simp [hn1]) hlp (by omega)]
      simp (disch := omega) [get_low, put_low, get_sput, put_sput, hd, hg, hn1, h2, h3, if_pos, IntWalk.i64_in, xc]
  · simp only [if_neg h1, hs]
    simp (disch := omega) [get_low, hd, hg, hn1, h1, if_pos]

theorem xnum_le (S : List UInt8) (x : Xd) (h : x.1 ≤ S.length) : (xnum S x).2.1 ≤ S.length := by
  unfold xnum
  split
  · split
    · exact h
    · simp only; omega
  · exact h

def xbelow (S : List UInt8) (bound : Int) (x : Xd) : Int × Xd :=
  if (xnum S x).2.2 = 0 then (if bound < 1 ∨ BitVec.ofInt 64 bound ≤ (xnum S x).1 then (0, ((xnum S x).2.1, 4)) else (IntKind.wrap .i64 ((xnum S x).1.toNat : Int), (xnum S x).2)) else (0, (xnum S x).2)
def xwords (S : List UInt8) (x : Xd) : List UInt8 × Xd :=
  if (xnum S x).2.2 = 0 then (if S.length - (xnum S x).2.1 < (xnum S x).1.toNat then ([], ((xnum S x).2.1, 3)) else ((S.drop (xnum S x).2.1).take (xnum S x).1.toNat, ((xnum S x).2.1 + (xnum S x).1.toNat, 0))) else ([], (xnum S x).2)
def xdone (S : List UInt8) (x : Xd) : Int := if x.2 = 0 then (if x.1 < S.length then 5 else 0) else x.2

theorem refbelow_ev {SP : SProg} {n29 n31 : Nat} (h29 : SP.fn n29 = some s29) (h31 : SP.fn n31 = some (s31 n29)) (k : Nat) (M : Mem) (S : List UInt8) (x : Xd) (d id : Nat) (fl : Bool) (bound : Int) (hd : d < M.length) (hx : x.1 ≤ S.length) (hl : S.length < 2 ^ 48) (hg : ∀ o, get M ⟨d, id, 3, o⟩ = some (xc S x.1 x.2 fl)) :
    callFn SP (k + 2) n31 [.ptr (some ⟨d, id, 3, 0⟩), .int .i64 bound] M = some (.int .i64 (xbelow S bound x).1, [], put M d id (xc S (xbelow S bound x).2.1 (xbelow S bound x).2.2 fl)) := by
  have hn1 : d ≠ M.length := by omega
  have ht := number_ev h29 k (mk [] :: M) S x d id fl (by simp; omega) hx hl (fun o => by rw [get_low (by exact hd)]; exact hg o)
  rw [put_low hd] at ht
  rw [call_fn (h31.trans rfl) (by simp)]
  unfold xbelow
  obtain ⟨n, ⟨at_, bad⟩, he⟩ : ∃ n r', xnum S x = (n, r') := ⟨_, _, rfl⟩
  rw [he] at ht ⊢
  simp only [xc] at ht ⊢
  by_cases h1 : bad = 0
  · subst h1
    by_cases h2 : bound < 1
    · simp (disch := omega) [ht, get_sput, put_sput, hd, h2, if_pos]
    · by_cases h3 : BitVec.ofInt 64 bound ≤ n
      · simp (disch := omega) [ht, get_sput, put_sput, hd, h2, h3, if_pos]
      · simp (disch := omega) [ht, get_sput, put_sput, hd, h2, h3, if_pos]
  · simp (disch := omega) [ht, get_sput, put_sput, hd, h1, if_pos]

theorem refdone_ev {SP : SProg} {n33 : Nat} (h33 : SP.fn n33 = some s33) (k : Nat) (M : Mem) (S : List UInt8) (x : Xd) (d id : Nat) (fl : Bool) (hd : d < M.length) (hg : ∀ o, get M ⟨d, id, 3, o⟩ = some (xc S x.1 x.2 fl)) :
    callFn SP (k + 1) n33 [.ptr (some ⟨d, id, 3, 0⟩)] M = some (.int .i64 (xdone S x), [], M) := by
  simp only [xc] at hg
  rw [call_fn (h33.trans rfl) (by simp)]
  unfold xdone
  by_cases h1 : x.2 = 0
  · by_cases h2 : x.1 < S.length
    · simp (disch := omega) [get_low, hd, hg, h1, h2]
    · simp (disch := omega) [get_low, hd, hg, h1, h2]
  · simp (disch := omega) [get_low, hd, hg, h1]

theorem refwords_ev {SP : SProg} {n29 n32 : Nat} (h29 : SP.fn n29 = some s29) (h32 : SP.fn n32 = some (s32 n29)) (k : Nat) (M : Mem) (S : List UInt8) (x : Xd) (d id : Nat) (fl : Bool) (hd : d < M.length) (hx : x.1 ≤ S.length) (hl : S.length < 2 ^ 48) (hg : ∀ o, get M ⟨d, id, 3, o⟩ = some (xc S x.1 x.2 fl)) :
    callFn SP (k + 2) n32 [.ptr (some ⟨d, id, 3, 0⟩)] M = some (.str (xwords S x).1, [], put M d id (xc S (xwords S x).2.1 (xwords S x).2.2 fl)) := by
  have hn1 : d ≠ M.length := by omega
  have ht := number_ev h29 k (mk [] :: M) S x d id fl (by simp; omega) hx hl (fun o => by rw [get_low (by exact hd)]; exact hg o)
  rw [put_low hd] at ht
  have hle := xnum_le S x hx
  rw [call_fn (h32.trans rfl) (by simp)]
  unfold xwords
  obtain ⟨n, ⟨at_, bad⟩, he⟩ : ∃ n r', xnum S x = (n, r') := ⟨_, _, rfl⟩
  rw [he] at ht hle ⊢
  simp only [xc] at ht hle ⊢
  by_cases h1 : bad = 0
  · subst h1
    have hw : IntKind.i64.wrap ((S.length : Int) - at_) = ((S.length - at_ : Nat) : Int) := by rw [IntWalk.i64_in _ ⟨by omega, by omega⟩]; omega
    have hc : BitVec.ofNat 64 (S.length - at_) < n ↔ S.length - at_ < n.toNat := by
      rw [BitVec.lt_def, BitVec.toNat_ofNat, Nat.mod_eq_of_lt (by omega)]
    by_cases h2 : S.length - at_ < n.toNat
    · have h3 := hc.2 h2
      simp (disch := omega) [ht, get_sput, put_sput, hd, hw, h2, h3, if_pos]
    · have h3 := mt hc.1 h2
      have hw2 : IntKind.i64.wrap (n.toNat : Int) = n.toNat := IntWalk.i64_in _ ⟨by omega, by omega⟩
      have hw3 : IntKind.i64.wrap ((at_ : Int) + n.toNat) = ((at_ + n.toNat : Nat) : Int) := by rw [IntWalk.i64_in _ ⟨by omega, by omega⟩]; omega
      simp (disch := omega) [ht, get_sput, put_sput, hd, hw, hw2, hw3, h2, h3, if_pos]
      rw [show ((at_ : Int) + (n.toNat : Int)).toNat = at_ + n.toNat by omega, List.drop_take, Nat.add_sub_cancel_left]
  · simp (disch := omega) [ht, get_sput, put_sput, hd, h1, if_pos]

end Go.Det.K
