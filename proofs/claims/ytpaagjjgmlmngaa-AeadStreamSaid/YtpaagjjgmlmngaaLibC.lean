/-
  LIB, chacha: the code of package chacha and of its document's answer, and what each function comes to, whatever program they stand in.
-/
import Derived.Test.YtpaagjjgmlmngaaLibWW
set_option maxRecDepth 100000
set_option maxHeartbeats 4000000
set_option linter.unusedSimpArgs false
set_option linter.unusedVariables false
namespace Go.Det.C
open Go.Det

-- 10 calls [19]
abbrev k10_0 : List Nat := [0, 1, 2, 3, 16, 17]
abbrev a10_0 : List Nat := [0, 1, 2, 3]
abbrev e10_0 (v0 v1 v2 v3 v16 v17 : AV) : Env := [v0, v1, v2, v3, .dead, .dead, .dead, .dead, .dead, .dead, .dead, .dead, .dead, .dead, .dead, .dead, v16, v17, .dead, .dead, .dead, .dead, .dead, .dead, .dead, .dead, .dead, .dead, .dead, .dead, .dead, .dead, .dead, .dead, .dead, .dead, .dead, .dead, .dead, .dead, .dead, .dead, .dead]
abbrev x10_0 (v0 v1 v2 v3 : AV) : Env := [v0, v1, v2, v3, .dead, .dead, .dead, .dead, .dead, .dead, .dead, .dead, .dead, .dead, .dead, .dead, .dead, .dead, .dead, .dead, .dead, .dead, .dead, .dead, .dead, .dead, .dead, .dead, .dead, .dead, .dead, .dead, .dead, .dead, .dead, .dead, .dead, .dead, .dead, .dead, .dead, .dead, .dead]
def s10_b0 (n19 : Nat) : SCode :=
  .seq (
    .region [
      ⟨some 18, none, [], .p (.bin .lss (.t 17) (.c (.int .i64 2)))⟩]) (
  .seq (
    .cond (.t 18) (
      .skip) (
      .exit 0)) (
  .seq (
    .block 1 (
      .seq (
        .region [
          ⟨some 19, none, [], .p (.idxAN 2 2 (.t 16) (.t 17))⟩,
          ⟨some 13, none, [], .a 12004 (.alloc [.int .i64 0, .int .i64 0])⟩,
          ⟨none, none, [], .w (.storeN 2 (.t 13) (.t 19))⟩]) (
      .seq (
        .region [
          ⟨some 20, none, [], .p (.mv (.t 0))⟩,
          ⟨some 21, none, [], .p (.mv (.t 1))⟩,
          ⟨some 22, none, [], .p (.bin .add (.t 20) (.t 21))⟩,
          ⟨some 0, none, [], .p (.mv (.t 22))⟩]) (
      .seq (
        .region [
          ⟨some 23, none, [], .p (.mv (.t 3))⟩,
          ⟨some 24, none, [], .p (.mv (.t 0))⟩,
          ⟨some 25, none, [], .p (.bin .xor (.t 23) (.t 24))⟩,
          ⟨some 26, none, [], .p (.iaddrA 2 1 (.t 13) (.c (.int .i64 0)))⟩,
          ⟨some 27, none, [], .r (.load1 (.t 26))⟩,
          ⟨some 28, none, [], .call 20020 4 true (.f n19) [.t 25, .t 27]⟩,
          ⟨some 3, none, [], .p (.mv (.t 28))⟩]) (
      .seq (
        .region [
          ⟨some 29, none, [], .p (.mv (.t 2))⟩,
          ⟨some 30, none, [], .p (.mv (.t 3))⟩,
          ⟨some 31, none, [], .p (.bin .add (.t 29) (.t 30))⟩,
          ⟨some 2, none, [], .p (.mv (.t 31))⟩]) (
      .region [
        ⟨some 32, none, [], .p (.mv (.t 1))⟩,
        ⟨some 33, none, [], .p (.mv (.t 2))⟩,
        ⟨some 34, none, [], .p (.bin .xor (.t 32) (.t 33))⟩,
        ⟨some 35, none, [], .p (.iaddrA 2 1 (.t 13) (.c (.int .i64 1)))⟩,
        ⟨some 36, none, [], .r (.load1 (.t 35))⟩,
        ⟨some 37, none, [], .call 28020 4 true (.f n19) [.t 34, .t 36]⟩,
        ⟨some 1, none, [], .p (.mv (.t 37))⟩])))))) (
  .region [
    ⟨some 38, none, [], .p (.bin .add (.t 17) (.c (.int .i64 1)))⟩,
    ⟨some 17, none, [], .p (.mv (.t 38))⟩])))

def s10 (n19 : Nat) : SFunc := ⟨
  .seq (
    .region [
      ⟨some 8, none, [], .p (.mv (.c (u32 0#32)))⟩,
      ⟨some 9, none, [], .p (.mv (.c (u32 0#32)))⟩,
      ⟨some 10, none, [], .p (.mv (.c (u32 0#32)))⟩,
      ⟨some 11, none, [], .p (.mv (.c (u32 0#32)))⟩]) (
  .seq (
    .seq (
      .region [
        ⟨some 14, none, [], .p (.build [.int .i64 0, .int .i64 0] [(0, 1, .c (.int .i64 16)), (1, 1, .c (.int .i64 12))])⟩,
        ⟨some 15, none, [], .p (.build [.int .i64 0, .int .i64 0] [(0, 1, .c (.int .i64 8)), (1, 1, .c (.int .i64 7))])⟩,
        ⟨some 16, none, [], .p (.build [.int .i64 0, .int .i64 0, .int .i64 0, .int .i64 0] [(0, 2, .t 14), (2, 2, .t 15)])⟩,
        ⟨some 17, none, [], .p (.mv (.c (.int .i64 0)))⟩]) (
    .block 0 (
      .loop k10_0 a10_0 (s10_b0 n19)))) (
  .seq (
    .region [
      ⟨some 39, none, [], .p (.mv (.t 0))⟩,
      ⟨some 40, none, [], .p (.mv (.t 1))⟩,
      ⟨some 41, none, [], .p (.mv (.t 2))⟩,
      ⟨some 42, none, [], .p (.mv (.t 3))⟩,
      ⟨some 8, none, [], .p (.mv (.t 39))⟩,
      ⟨some 9, none, [], .p (.mv (.t 40))⟩,
      ⟨some 10, none, [], .p (.mv (.t 41))⟩,
      ⟨some 11, none, [], .p (.mv (.t 42))⟩]) (
  .ret))),
  43, [Sum.inl 8, Sum.inl 9, Sum.inl 10, Sum.inl 11]⟩

-- 28 calls [10]
def s28 (n10 : Nat) : SFunc := ⟨
  .region [
    ⟨some 11, none, [], .p (.mv (.t 0))⟩,
    ⟨some 12, none, [], .p (.mv (.t 1))⟩,
    ⟨some 13, none, [], .p (.mv (.t 0))⟩,
    ⟨some 14, none, [], .p (.mv (.t 2))⟩,
    ⟨some 15, none, [], .p (.mv (.t 0))⟩,
    ⟨some 16, none, [], .p (.mv (.t 3))⟩,
    ⟨some 17, none, [], .p (.mv (.t 0))⟩,
    ⟨some 18, none, [], .p (.mv (.t 4))⟩,
    ⟨some 19, none, [], .p (.mv (.t 0))⟩,
    ⟨some 20, none, [], .p (.mv (.t 1))⟩,
    ⟨some 21, none, [], .p (.nilChk (.t 19))⟩,
    ⟨some 22, none, [], .p (.iaddrA 16 1 (.t 21) (.t 20))⟩,
    ⟨some 23, none, [], .r (.load1 (.t 22))⟩,
    ⟨some 24, none, [], .p (.mv (.t 0))⟩,
    ⟨some 25, none, [], .p (.mv (.t 2))⟩,
    ⟨some 26, none, [], .p (.nilChk (.t 24))⟩,
    ⟨some 27, none, [], .p (.iaddrA 16 1 (.t 26) (.t 25))⟩,
    ⟨some 28, none, [], .r (.load1 (.t 27))⟩,
    ⟨some 29, none, [], .p (.mv (.t 0))⟩,
    ⟨some 30, none, [], .p (.mv (.t 3))⟩,
    ⟨some 31, none, [], .p (.nilChk (.t 29))⟩,
    ⟨some 32, none, [], .p (.iaddrA 16 1 (.t 31) (.t 30))⟩,
    ⟨some 33, none, [], .r (.load1 (.t 32))⟩,
    ⟨some 34, none, [], .p (.mv (.t 0))⟩,
    ⟨some 35, none, [], .p (.mv (.t 4))⟩,
    ⟨some 36, none, [], .p (.nilChk (.t 34))⟩,
    ⟨some 37, none, [], .p (.iaddrA 16 1 (.t 36) (.t 35))⟩,
    ⟨some 38, none, [], .r (.load1 (.t 37))⟩,
    ⟨some 39, none, [], .call 112 4 true (.f n10) [.t 23, .t 28, .t 33, .t 38]⟩,
    ⟨some 10, none, [], .p (.mv (.t 39))⟩,
    ⟨some 40, none, [], .p (.extract (.t 10) 0)⟩,
    ⟨some 41, none, [], .p (.extract (.t 10) 1)⟩,
    ⟨some 42, none, [], .p (.extract (.t 10) 2)⟩,
    ⟨some 43, none, [], .p (.extract (.t 10) 3)⟩,
    ⟨some 44, none, [], .p (.nilChk (.t 11))⟩,
    ⟨some 45, none, [], .p (.iaddrA 16 1 (.t 44) (.t 12))⟩,
    ⟨none, none, [], .w (.store1 (.t 45) (.t 40))⟩,
    ⟨some 46, none, [], .p (.nilChk (.t 13))⟩,
    ⟨some 47, none, [], .p (.iaddrA 16 1 (.t 46) (.t 14))⟩,
    ⟨none, none, [], .w (.store1 (.t 47) (.t 41))⟩,
    ⟨some 48, none, [], .p (.nilChk (.t 15))⟩,
    ⟨some 49, none, [], .p (.iaddrA 16 1 (.t 48) (.t 16))⟩,
    ⟨none, none, [], .w (.store1 (.t 49) (.t 42))⟩,
    ⟨some 50, none, [], .p (.nilChk (.t 17))⟩,
    ⟨some 51, none, [], .p (.iaddrA 16 1 (.t 50) (.t 18))⟩,
    ⟨none, none, [], .w (.store1 (.t 51) (.t 43))⟩],
  52, []⟩

-- 21 calls []
def s21 : SFunc := ⟨
  .seq (
    .region [
      ⟨some 4, none, [], .p (.mv (.c (.bool false)))⟩]) (
  .seq (
    .region [
      ⟨some 5, none, [], .p (.mv (.t 0))⟩,
      ⟨some 6, none, [], .p (.lenV false (.t 5))⟩,
      ⟨some 7, none, [], .p (.bin .eql (.t 6) (.c (.int .i64 32)))⟩,
      ⟨some 8, none, [], .p (.mv (.t 7))⟩,
      ⟨some 9, some (8, true), [], .p (.mv (.t 1))⟩,
      ⟨some 10, some (8, true), [], .p (.lenV false (.t 9))⟩,
      ⟨some 11, some (8, true), [], .p (.bin .eql (.t 10) (.c (.int .i64 12)))⟩,
      ⟨some 12, none, [], .p (.pick (.t 8) (.t 11) (.c (.bool false)))⟩,
      ⟨some 4, none, [], .p (.mv (.t 12))⟩]) (
  .ret)),
  13, [Sum.inl 4]⟩

-- 22 calls [27, 28, 29]
abbrev k22_3 : List Nat := [11, 12, 69]
abbrev a22_3 : List Nat := [12]
abbrev e22_3 (v11 v12 v69 : AV) : Env := [.dead, .dead, .dead, .dead, .dead, .dead, .dead, .dead, .dead, .dead, .dead, v11, v12, .dead, .dead, .dead, .dead, .dead, .dead, .dead, .dead, .dead, .dead, .dead, .dead, .dead, .dead, .dead, .dead, .dead, .dead, .dead, .dead, .dead, .dead, .dead, .dead, .dead, .dead, .dead, .dead, .dead, .dead, .dead, .dead, .dead, .dead, .dead, .dead, .dead, .dead, .dead, .dead, .dead, .dead, .dead, .dead, .dead, .dead, .dead, .dead, .dead, .dead, .dead, .dead, .dead, .dead, .dead, .dead, v69, .dead, .dead, .dead, .dead, .dead, .dead, .dead, .dead, .dead, .dead, .dead, .dead, .dead]
abbrev x22_3 (v12 : AV) : Env := [.dead, .dead, .dead, .dead, .dead, .dead, .dead, .dead, .dead, .dead, .dead, .dead, v12, .dead, .dead, .dead, .dead, .dead, .dead, .dead, .dead, .dead, .dead, .dead, .dead, .dead, .dead, .dead, .dead, .dead, .dead, .dead, .dead, .dead, .dead, .dead, .dead, .dead, .dead, .dead, .dead, .dead, .dead, .dead, .dead, .dead, .dead, .dead, .dead, .dead, .dead, .dead, .dead, .dead, .dead, .dead, .dead, .dead, .dead, .dead, .dead, .dead, .dead, .dead, .dead, .dead, .dead, .dead, .dead, .dead, .dead, .dead, .dead, .dead, .dead, .dead, .dead, .dead, .dead, .dead, .dead, .dead, .dead]
def s22_b3 : SCode :=
  .seq (
    .region [
      ⟨some 70, none, [], .p (.bin .lss (.t 69) (.c (.int .i64 16)))⟩]) (
  .seq (
    .cond (.t 70) (
      .skip) (
      .exit 6)) (
  .seq (
    .block 7 (
      .seq (
        .region [
          ⟨some 71, none, [], .p (.mv (.t 69))⟩,
          ⟨some 15, none, [], .p (.mv (.t 71))⟩]) (
      .region [
        ⟨some 72, none, [], .p (.mv (.t 15))⟩,
        ⟨some 73, none, [], .p (.iaddrA 16 1 (.t 12) (.t 72))⟩,
        ⟨some 74, none, [], .r (.load1 (.t 73))⟩,
        ⟨some 75, none, [], .p (.mv (.t 15))⟩,
        ⟨some 76, none, [], .p (.iaddrA 16 1 (.t 11) (.t 75))⟩,
        ⟨some 77, none, [], .r (.load1 (.t 76))⟩,
        ⟨some 78, none, [], .p (.bin .add (.t 74) (.t 77))⟩,
        ⟨some 79, none, [], .p (.iaddrA 16 1 (.t 12) (.t 72))⟩,
        ⟨none, none, [], .w (.store1 (.t 79) (.t 78))⟩]))) (
  .region [
    ⟨some 80, none, [], .p (.bin .add (.t 69) (.c (.int .i64 1)))⟩,
    ⟨some 69, none, [], .p (.mv (.t 80))⟩])))

abbrev k22_2 : List Nat := [11, 12, 36, 50]
abbrev a22_2 : List Nat := [11, 12, 36]
abbrev e22_2 (v11 v12 v36 v50 : AV) : Env := [.dead, .dead, .dead, .dead, .dead, .dead, .dead, .dead, .dead, .dead, .dead, v11, v12, .dead, .dead, .dead, .dead, .dead, .dead, .dead, .dead, .dead, .dead, .dead, .dead, .dead, .dead, .dead, .dead, .dead, .dead, .dead, .dead, .dead, .dead, .dead, v36, .dead, .dead, .dead, .dead, .dead, .dead, .dead, .dead, .dead, .dead, .dead, .dead, .dead, v50, .dead, .dead, .dead, .dead, .dead, .dead, .dead, .dead, .dead, .dead, .dead, .dead, .dead, .dead, .dead, .dead, .dead, .dead, .dead, .dead, .dead, .dead, .dead, .dead, .dead, .dead, .dead, .dead, .dead, .dead, .dead, .dead]
abbrev x22_2 (v11 v12 v36 : AV) : Env := [.dead, .dead, .dead, .dead, .dead, .dead, .dead, .dead, .dead, .dead, .dead, v11, v12, .dead, .dead, .dead, .dead, .dead, .dead, .dead, .dead, .dead, .dead, .dead, .dead, .dead, .dead, .dead, .dead, .dead, .dead, .dead, .dead, .dead, .dead, .dead, v36, .dead, .dead, .dead, .dead, .dead, .dead, .dead, .dead, .dead, .dead, .dead, .dead, .dead, .dead, .dead, .dead, .dead, .dead, .dead, .dead, .dead, .dead, .dead, .dead, .dead, .dead, .dead, .dead, .dead, .dead, .dead, .dead, .dead, .dead, .dead, .dead, .dead, .dead, .dead, .dead, .dead, .dead, .dead, .dead, .dead, .dead]
def s22_b2 (n28 : Nat) : SCode :=
  .seq (
    .region [
      ⟨some 51, none, [], .p (.bin .lss (.t 50) (.c (.int .i64 4)))⟩]) (
  .seq (
    .cond (.t 51) (
      .skip) (
      .exit 4)) (
  .seq (
    .block 5 (
      .seq (
        .region [
          ⟨some 52, none, [], .p (.mv (.t 50))⟩,
          ⟨some 14, none, [], .p (.mv (.t 52))⟩]) (
      .region [
        ⟨some 53, none, [], .p (.mv (.t 14))⟩,
        ⟨some 54, none, [], .p (.mv (.t 14))⟩,
        ⟨some 55, none, [], .p (.bin .add (.t 54) (.c (.int .i64 1)))⟩,
        ⟨some 56, none, [], .p (.bin .rem (.t 55) (.c (.int .i64 4)))⟩,
        ⟨some 57, none, [], .p (.bin .add (.c (.int .i64 4)) (.t 56))⟩,
        ⟨some 58, none, [], .p (.mv (.t 14))⟩,
        ⟨some 59, none, [], .p (.bin .add (.t 58) (.c (.int .i64 2)))⟩,
        ⟨some 60, none, [], .p (.bin .rem (.t 59) (.c (.int .i64 4)))⟩,
        ⟨some 61, none, [], .p (.bin .add (.c (.int .i64 8)) (.t 60))⟩,
        ⟨some 62, none, [], .p (.mv (.t 14))⟩,
        ⟨some 63, none, [], .p (.bin .add (.t 62) (.c (.int .i64 3)))⟩,
        ⟨some 64, none, [], .p (.bin .rem (.t 63) (.c (.int .i64 4)))⟩,
        ⟨some 65, none, [], .p (.bin .add (.c (.int .i64 12)) (.t 64))⟩,
        ⟨some 66, none, [], .call 64052 4 false (.f n28) [.t 12, .t 53, .t 57, .t 61, .t 65]⟩]))) (
  .region [
    ⟨some 67, none, [], .p (.bin .add (.t 50) (.c (.int .i64 1)))⟩,
    ⟨some 50, none, [], .p (.mv (.t 67))⟩])))

abbrev k22_1 : List Nat := [11, 12, 36, 38]
abbrev a22_1 : List Nat := [11, 12, 36]
abbrev e22_1 (v11 v12 v36 v38 : AV) : Env := [.dead, .dead, .dead, .dead, .dead, .dead, .dead, .dead, .dead, .dead, .dead, v11, v12, .dead, .dead, .dead, .dead, .dead, .dead, .dead, .dead, .dead, .dead, .dead, .dead, .dead, .dead, .dead, .dead, .dead, .dead, .dead, .dead, .dead, .dead, .dead, v36, .dead, v38, .dead, .dead, .dead, .dead, .dead, .dead, .dead, .dead, .dead, .dead, .dead, .dead, .dead, .dead, .dead, .dead, .dead, .dead, .dead, .dead, .dead, .dead, .dead, .dead, .dead, .dead, .dead, .dead, .dead, .dead, .dead, .dead, .dead, .dead, .dead, .dead, .dead, .dead, .dead, .dead, .dead, .dead, .dead, .dead]
abbrev x22_1 (v11 v12 v36 : AV) : Env := [.dead, .dead, .dead, .dead, .dead, .dead, .dead, .dead, .dead, .dead, .dead, v11, v12, .dead, .dead, .dead, .dead, .dead, .dead, .dead, .dead, .dead, .dead, .dead, .dead, .dead, .dead, .dead, .dead, .dead, .dead, .dead, .dead, .dead, .dead, .dead, v36, .dead, .dead, .dead, .dead, .dead, .dead, .dead, .dead, .dead, .dead, .dead, .dead, .dead, .dead, .dead, .dead, .dead, .dead, .dead, .dead, .dead, .dead, .dead, .dead, .dead, .dead, .dead, .dead, .dead, .dead, .dead, .dead, .dead, .dead, .dead, .dead, .dead, .dead, .dead, .dead, .dead, .dead, .dead, .dead, .dead, .dead]
def s22_b1 (n28 : Nat) : SCode :=
  .seq (
    .region [
      ⟨some 39, none, [], .p (.bin .lss (.t 38) (.c (.int .i64 4)))⟩]) (
  .seq (
    .cond (.t 39) (
      .skip) (
      .exit 2)) (
  .seq (
    .block 3 (
      .seq (
        .region [
          ⟨some 40, none, [], .p (.mv (.t 38))⟩,
          ⟨some 13, none, [], .p (.mv (.t 40))⟩]) (
      .region [
        ⟨some 41, none, [], .p (.mv (.t 13))⟩,
        ⟨some 42, none, [], .p (.mv (.t 13))⟩,
        ⟨some 43, none, [], .p (.bin .add (.t 42) (.c (.int .i64 4)))⟩,
        ⟨some 44, none, [], .p (.mv (.t 13))⟩,
        ⟨some 45, none, [], .p (.bin .add (.t 44) (.c (.int .i64 8)))⟩,
        ⟨some 46, none, [], .p (.mv (.t 13))⟩,
        ⟨some 47, none, [], .p (.bin .add (.t 46) (.c (.int .i64 12)))⟩,
        ⟨some 48, none, [], .call 44028 4 false (.f n28) [.t 12, .t 41, .t 43, .t 45, .t 47]⟩]))) (
  .region [
    ⟨some 49, none, [], .p (.bin .add (.t 38) (.c (.int .i64 1)))⟩,
    ⟨some 38, none, [], .p (.mv (.t 49))⟩])))

abbrev k22_0 : List Nat := [11, 12, 36]
abbrev a22_0 : List Nat := [11, 12]
abbrev e22_0 (v11 v12 v36 : AV) : Env := [.dead, .dead, .dead, .dead, .dead, .dead, .dead, .dead, .dead, .dead, .dead, v11, v12, .dead, .dead, .dead, .dead, .dead, .dead, .dead, .dead, .dead, .dead, .dead, .dead, .dead, .dead, .dead, .dead, .dead, .dead, .dead, .dead, .dead, .dead, .dead, v36, .dead, .dead, .dead, .dead, .dead, .dead, .dead, .dead, .dead, .dead, .dead, .dead, .dead, .dead, .dead, .dead, .dead, .dead, .dead, .dead, .dead, .dead, .dead, .dead, .dead, .dead, .dead, .dead, .dead, .dead, .dead, .dead, .dead, .dead, .dead, .dead, .dead, .dead, .dead, .dead, .dead, .dead, .dead, .dead, .dead, .dead]
abbrev x22_0 (v11 v12 : AV) : Env := [.dead, .dead, .dead, .dead, .dead, .dead, .dead, .dead, .dead, .dead, .dead, v11, v12, .dead, .dead, .dead, .dead, .dead, .dead, .dead, .dead, .dead, .dead, .dead, .dead, .dead, .dead, .dead, .dead, .dead, .dead, .dead, .dead, .dead, .dead, .dead, .dead, .dead, .dead, .dead, .dead, .dead, .dead, .dead, .dead, .dead, .dead, .dead, .dead, .dead, .dead, .dead, .dead, .dead, .dead, .dead, .dead, .dead, .dead, .dead, .dead, .dead, .dead, .dead, .dead, .dead, .dead, .dead, .dead, .dead, .dead, .dead, .dead, .dead, .dead, .dead, .dead, .dead, .dead, .dead, .dead, .dead, .dead]
def s22_b0 (n28 : Nat) : SCode :=
  .seq (
    .region [
      ⟨some 37, none, [], .p (.bin .lss (.t 36) (.c (.int .i64 10)))⟩]) (
  .seq (
    .cond (.t 37) (
      .skip) (
      .exit 0)) (
  .seq (
    .block 1 (
      .seq (
        .seq (
          .region [
            ⟨some 38, none, [], .p (.mv (.c (.int .i64 0)))⟩]) (
        .block 2 (
          .loop k22_1 a22_1 (s22_b1 n28)))) (
      .seq (
        .region [
          ⟨some 50, none, [], .p (.mv (.c (.int .i64 0)))⟩]) (
      .block 4 (
        .loop k22_2 a22_2 (s22_b2 n28)))))) (
  .region [
    ⟨some 68, none, [], .p (.bin .add (.t 36) (.c (.int .i64 1)))⟩,
    ⟨some 36, none, [], .p (.mv (.t 68))⟩])))

def s22 (n27 n28 n29 : Nat) : SFunc := ⟨
  .seq (
    .region [
      ⟨some 6, none, [], .p (.mv (.c (.str [])))⟩]) (
  .seq (
    .region [
      ⟨some 17, none, [], .p (.mv (.t 0))⟩,
      ⟨some 18, none, [], .p (.bin .add (.c (.str [101, 120, 112, 97, 110, 100, 32, 51, 50, 45, 98, 121, 116, 101, 32, 107])) (.t 17))⟩,
      ⟨some 19, none, [], .call 4008 4 true (.f n27) [.t 18]⟩,
      ⟨some 16, none, [], .p (.mv (.t 19))⟩,
      ⟨some 20, none, [], .p (.extract (.t 16) 0)⟩,
      ⟨some 21, none, [], .p (.extract (.t 16) 1)⟩,
      ⟨some 7, none, [], .p (.mv (.t 20))⟩,
      ⟨some 8, none, [], .p (.mv (.t 21))⟩]) (
  .seq (
    .region [
      ⟨some 23, none, [], .p (.mv (.t 1))⟩,
      ⟨some 24, none, [], .call 8004 4 true (.f n27) [.t 23]⟩,
      ⟨some 22, none, [], .p (.mv (.t 24))⟩,
      ⟨some 25, none, [], .p (.extract (.t 22) 0)⟩,
      ⟨some 26, none, [], .p (.extract (.t 22) 1)⟩,
      ⟨some 9, none, [], .p (.mv (.t 25))⟩,
      ⟨some 10, none, [], .p (.mv (.t 26))⟩]) (
  .seq (
    .region [
      ⟨some 11, none, [], .a 12000 (.alloc [u32 0#32, u32 0#32, u32 0#32, u32 0#32, u32 0#32, u32 0#32, u32 0#32, u32 0#32, u32 0#32, u32 0#32, u32 0#32, u32 0#32, u32 0#32, u32 0#32, u32 0#32, u32 0#32])⟩]) (
  .seq (
    .region [
      ⟨some 27, none, [], .p (.slcA 16 1 (.t 11) none none)⟩,
      ⟨some 28, none, [], .p (.mv (.t 7))⟩,
      ⟨some 29, none, [], .p (.mv (.t 2))⟩,
      ⟨some 30, none, [], .a 16012 (.buildS 1 1 [u32 0#32] [(0, 1, .t 29)])⟩,
      ⟨some 31, none, [], .w (.append 16016 1 4 (.t 28) (.t 30))⟩,
      ⟨some 32, none, [], .p (.mv (.t 9))⟩,
      ⟨some 33, none, [], .w (.append 16024 1 4 (.t 31) (.t 32))⟩,
      ⟨some 34, none, [], .w (.copy 1 (.t 27) (.t 33))⟩]) (
  .seq (
    .region [
      ⟨some 35, none, [], .r (.loadN 16 (.t 11))⟩,
      ⟨some 12, none, [], .a 20004 (.alloc [u32 0#32, u32 0#32, u32 0#32, u32 0#32, u32 0#32, u32 0#32, u32 0#32, u32 0#32, u32 0#32, u32 0#32, u32 0#32, u32 0#32, u32 0#32, u32 0#32, u32 0#32, u32 0#32])⟩,
      ⟨none, none, [], .w (.storeN 16 (.t 12) (.t 35))⟩]) (
  .seq (
    .seq (
      .region [
        ⟨some 36, none, [], .p (.mv (.c (.int .i64 0)))⟩]) (
    .block 0 (
      .loop k22_0 a22_0 (s22_b0 n28)))) (
  .seq (
    .seq (
      .region [
        ⟨some 69, none, [], .p (.mv (.c (.int .i64 0)))⟩]) (
    .block 6 (
      .loop k22_3 a22_3 s22_b3))) (
  .seq (
    .region [
      ⟨some 81, none, [], .p (.slcA 16 1 (.t 12) none none)⟩,
      ⟨some 82, none, [], .call 96004 4 true (.f n29) [.t 81]⟩,
      ⟨some 6, none, [], .p (.mv (.t 82))⟩]) (
  .ret))))))))),
  83, [Sum.inl 6]⟩

-- 14 calls [21, 22]
def s14 (n21 n22 : Nat) : SFunc := ⟨
  .seq (
    .region [
      ⟨some 6, none, [], .p (.mv (.c (.str [])))⟩,
      ⟨some 7, none, [], .p (.mv (.c (.int .i64 0)))⟩]) (
  .seq (
    .seq (
      .region [
        ⟨some 8, none, [], .p (.mv (.t 0))⟩,
        ⟨some 9, none, [], .p (.mv (.t 1))⟩,
        ⟨some 10, none, [], .call 4008 4 true (.f n21) [.t 8, .t 9]⟩,
        ⟨some 11, none, [], .p (.un .not (.t 10))⟩]) (
    .cond (.t 11) (
      .seq (
        .region [
          ⟨some 6, none, [], .p (.mv (.c (.str [])))⟩,
          ⟨some 7, none, [], .p (.mv (.c (.int .i64 7)))⟩]) (
      .ret)) (
      .skip))) (
  .seq (
    .region [
      ⟨some 12, none, [], .p (.mv (.t 0))⟩,
      ⟨some 13, none, [], .p (.mv (.t 1))⟩,
      ⟨some 14, none, [], .p (.mv (.t 2))⟩,
      ⟨some 15, none, [], .call 12012 4 true (.f n22) [.t 12, .t 13, .t 14]⟩,
      ⟨some 6, none, [], .p (.mv (.t 15))⟩,
      ⟨some 7, none, [], .p (.mv (.c (.int .i64 0)))⟩]) (
  .ret))),
  16, [Sum.inl 6, Sum.inl 7]⟩

-- 16 calls [18, 21, 22]
abbrev k16_0 : List Nat := [0, 1, 2, 3, 10]
abbrev a16_0 : List Nat := [10]
abbrev e16_0 (v0 v1 v2 v3 v10 : AV) : Env := [v0, v1, v2, v3, .dead, .dead, .dead, .dead, .dead, .dead, v10, .dead, .dead, .dead, .dead, .dead, .dead, .dead, .dead, .dead, .dead, .dead, .dead, .dead, .dead, .dead, .dead, .dead, .dead, .dead, .dead, .dead, .dead, .dead, .dead, .dead, .dead, .dead, .dead, .dead, .dead, .dead, .dead, .dead, .dead, .dead, .dead]
abbrev x16_0 (v10 : AV) : Env := [.dead, .dead, .dead, .dead, .dead, .dead, .dead, .dead, .dead, .dead, v10, .dead, .dead, .dead, .dead, .dead, .dead, .dead, .dead, .dead, .dead, .dead, .dead, .dead, .dead, .dead, .dead, .dead, .dead, .dead, .dead, .dead, .dead, .dead, .dead, .dead, .dead, .dead, .dead, .dead, .dead, .dead, .dead, .dead, .dead, .dead, .dead]
def s16_b0 (n18 n22 : Nat) : SCode :=
  .seq (
    .seq (
      .region [
        ⟨some 24, none, [], .p (.mv (.t 3))⟩,
        ⟨some 25, none, [], .p (.lenV false (.t 24))⟩,
        ⟨some 26, none, [], .p (.bin .gtr (.t 25) (.c (.int .i64 0)))⟩]) (
    .cond (.t 26) (
      .skip) (
      .exit 1))) (
  .seq (
    .block 2 (
      .seq (
        .region [
          ⟨some 29, none, [], .p (.mv (.t 3))⟩,
          ⟨some 30, none, [], .p (.lenV false (.t 29))⟩,
          ⟨some 31, none, [], .p (.minmax false (.t 30) (.c (.int .i64 64)))⟩,
          ⟨some 11, none, [], .p (.mv (.t 31))⟩]) (
      .seq (
        .region [
          ⟨some 32, none, [], .p (.mv (.t 10))⟩,
          ⟨some 33, none, [], .p (.mv (.t 3))⟩,
          ⟨some 34, none, [], .p (.mv (.t 11))⟩,
          ⟨some 35, none, [], .p (.slcStr (.t 33) none (some (.t 34)))⟩,
          ⟨some 36, none, [], .p (.mv (.t 0))⟩,
          ⟨some 37, none, [], .p (.mv (.t 1))⟩,
          ⟨some 38, none, [], .p (.mv (.t 2))⟩,
          ⟨some 39, none, [], .call 36028 4 true (.f n22) [.t 36, .t 37, .t 38]⟩,
          ⟨some 40, none, [], .call 36032 4 true (.f n18) [.t 35, .t 39]⟩,
          ⟨some 41, none, [], .w (.append 36036 1 1 (.t 32) (.t 40))⟩,
          ⟨some 10, none, [], .p (.mv (.t 41))⟩]) (
      .region [
        ⟨some 42, none, [], .p (.mv (.t 3))⟩,
        ⟨some 43, none, [], .p (.mv (.t 11))⟩,
        ⟨some 44, none, [], .p (.slcStr (.t 42) (some (.t 43)) none)⟩,
        ⟨some 3, none, [], .p (.mv (.t 44))⟩])))) (
  .region [
    ⟨some 27, none, [], .p (.mv (.t 2))⟩,
    ⟨some 28, none, [], .p (.bin .add (.t 27) (.c (u32 1#32)))⟩,
    ⟨some 2, none, [], .p (.mv (.t 28))⟩]))

def s16 (n18 n21 n22 : Nat) : SFunc := ⟨
  .seq (
    .region [
      ⟨some 8, none, [], .p (.mv (.c (.str [])))⟩,
      ⟨some 9, none, [], .p (.mv (.c (.int .i64 0)))⟩]) (
  .seq (
    .block 0 (
      .seq (
        .region [
          ⟨some 13, none, [], .p (.mv (.t 0))⟩,
          ⟨some 14, none, [], .p (.mv (.t 1))⟩,
          ⟨some 15, none, [], .call 4008 4 true (.f n21) [.t 13, .t 14]⟩,
          ⟨some 16, none, [], .p (.un .not (.t 15))⟩,
          ⟨some 12, none, [], .p (.mv (.t 16))⟩]) (
      .cond (.t 12) (
        .seq (
          .region [
            ⟨some 8, none, [], .p (.mv (.c (.str [])))⟩,
            ⟨some 9, none, [], .p (.mv (.c (.int .i64 7)))⟩]) (
        .ret)) (
        .seq (
          .region [
            ⟨some 18, none, [], .p (.mv (.t 3))⟩,
            ⟨some 19, none, [], .p (.lenV false (.t 18))⟩,
            ⟨some 20, none, [], .p (.bin .gtr (.t 19) (.c (.int .i64 65536)))⟩,
            ⟨some 17, none, [], .p (.mv (.t 20))⟩]) (
        .cond (.t 17) (
          .seq (
            .region [
              ⟨some 8, none, [], .p (.mv (.c (.str [])))⟩,
              ⟨some 9, none, [], .p (.mv (.c (.int .i64 5)))⟩]) (
          .ret)) (
          .skip)))))) (
  .seq (
    .region [
      ⟨some 21, none, [], .p (.mv (.t 3))⟩,
      ⟨some 22, none, [], .p (.lenV false (.t 21))⟩,
      ⟨some 23, none, [], .a 20008 (.mkSlice 1 1 [byteAV 0] (.c (.int .i64 0)) (.t 22))⟩,
      ⟨some 10, none, [], .p (.mv (.t 23))⟩]) (
  .seq (
    .block 1 (
      .loop k16_0 a16_0 (s16_b0 n18 n22))) (
  .seq (
    .region [
      ⟨some 45, none, [], .p (.mv (.t 10))⟩,
      ⟨some 46, none, [], .r (.toStr (.t 45))⟩,
      ⟨some 8, none, [], .p (.mv (.t 46))⟩,
      ⟨some 9, none, [], .p (.mv (.c (.int .i64 0)))⟩]) (
  .ret))))),
  47, [Sum.inl 8, Sum.inl 9]⟩

-- 12 calls [20]
def s12 (n20 : Nat) : SFunc := ⟨
  .seq (
    .region [
      ⟨some 8, none, [], .a 0 (.alloc [u32 0#32, u32 0#32, u32 0#32, u32 0#32])⟩]) (
  .seq (
    .region [
      ⟨some 9, none, [], .p (.mv (.t 0))⟩,
      ⟨some 10, none, [], .p (.mv (.t 1))⟩,
      ⟨some 11, none, [], .p (.bin .add (.t 9) (.t 10))⟩,
      ⟨some 0, none, [], .p (.mv (.t 11))⟩]) (
  .seq (
    .region [
      ⟨some 12, none, [], .p (.mv (.t 3))⟩,
      ⟨some 13, none, [], .p (.mv (.t 0))⟩,
      ⟨some 14, none, [], .p (.bin .xor (.t 12) (.t 13))⟩,
      ⟨some 15, none, [], .call 8012 4 true (.f n20) [.t 14, .c (.int .i64 16)]⟩,
      ⟨some 3, none, [], .p (.mv (.t 15))⟩]) (
  .seq (
    .region [
      ⟨some 16, none, [], .p (.mv (.t 2))⟩,
      ⟨some 17, none, [], .p (.mv (.t 3))⟩,
      ⟨some 18, none, [], .p (.bin .add (.t 16) (.t 17))⟩,
      ⟨some 2, none, [], .p (.mv (.t 18))⟩]) (
  .seq (
    .region [
      ⟨some 19, none, [], .p (.mv (.t 1))⟩,
      ⟨some 20, none, [], .p (.mv (.t 2))⟩,
      ⟨some 21, none, [], .p (.bin .xor (.t 19) (.t 20))⟩,
      ⟨some 22, none, [], .call 16012 4 true (.f n20) [.t 21, .c (.int .i64 12)]⟩,
      ⟨some 1, none, [], .p (.mv (.t 22))⟩]) (
  .seq (
    .region [
      ⟨some 23, none, [], .p (.mv (.t 0))⟩,
      ⟨some 24, none, [], .p (.mv (.t 1))⟩,
      ⟨some 25, none, [], .p (.bin .add (.t 23) (.t 24))⟩,
      ⟨some 0, none, [], .p (.mv (.t 25))⟩]) (
  .seq (
    .region [
      ⟨some 26, none, [], .p (.mv (.t 3))⟩,
      ⟨some 27, none, [], .p (.mv (.t 0))⟩,
      ⟨some 28, none, [], .p (.bin .xor (.t 26) (.t 27))⟩,
      ⟨some 29, none, [], .call 24012 4 true (.f n20) [.t 28, .c (.int .i64 8)]⟩,
      ⟨some 3, none, [], .p (.mv (.t 29))⟩]) (
  .seq (
    .region [
      ⟨some 30, none, [], .p (.mv (.t 2))⟩,
      ⟨some 31, none, [], .p (.mv (.t 3))⟩,
      ⟨some 32, none, [], .p (.bin .add (.t 30) (.t 31))⟩,
      ⟨some 2, none, [], .p (.mv (.t 32))⟩]) (
  .seq (
    .region [
      ⟨some 33, none, [], .p (.mv (.t 1))⟩,
      ⟨some 34, none, [], .p (.mv (.t 2))⟩,
      ⟨some 35, none, [], .p (.bin .xor (.t 33) (.t 34))⟩,
      ⟨some 36, none, [], .call 32012 4 true (.f n20) [.t 35, .c (.int .i64 7)]⟩,
      ⟨some 1, none, [], .p (.mv (.t 36))⟩]) (
  .seq (
    .region [
      ⟨some 37, none, [], .p (.mv (.t 0))⟩,
      ⟨some 38, none, [], .p (.mv (.t 1))⟩,
      ⟨some 39, none, [], .p (.mv (.t 2))⟩,
      ⟨some 40, none, [], .p (.mv (.t 3))⟩,
      ⟨some 41, none, [], .p (.build [u32 0#32, u32 0#32, u32 0#32, u32 0#32] [(0, 1, .t 37), (1, 1, .t 38), (2, 1, .t 39), (3, 1, .t 40)])⟩,
      ⟨none, none, [], .w (.storeN 4 (.t 8) (.t 41))⟩]) (
  .ret)))))))))),
  42, [Sum.inr (8, 4, true)]⟩

-- 24 calls [12]
def s24 (n12 : Nat) : SFunc := ⟨
  .seq (
    .region [
      ⟨some 5, none, [], .a 0 (.box (.t 0))⟩,
      ⟨some 10, none, [], .a 4 (.alloc [u32 0#32, u32 0#32, u32 0#32, u32 0#32, u32 0#32, u32 0#32, u32 0#32, u32 0#32, u32 0#32, u32 0#32, u32 0#32, u32 0#32, u32 0#32, u32 0#32, u32 0#32, u32 0#32])⟩]) (
  .seq (
    .region [
      ⟨some 12, none, [], .p (.mv (.t 1))⟩,
      ⟨some 13, none, [], .p (.iaddrA 16 1 (.t 5) (.t 12))⟩,
      ⟨some 14, none, [4052], .r (.load1 (.t 13))⟩,
      ⟨some 15, none, [], .p (.mv (.t 2))⟩,
      ⟨some 16, none, [], .p (.iaddrA 16 1 (.t 5) (.t 15))⟩,
      ⟨some 17, none, [4052], .r (.load1 (.t 16))⟩,
      ⟨some 18, none, [], .p (.mv (.t 3))⟩,
      ⟨some 19, none, [], .p (.iaddrA 16 1 (.t 5) (.t 18))⟩,
      ⟨some 20, none, [4052], .r (.load1 (.t 19))⟩,
      ⟨some 21, none, [], .p (.mv (.t 4))⟩,
      ⟨some 22, none, [], .p (.iaddrA 16 1 (.t 5) (.t 21))⟩,
      ⟨some 23, none, [4052], .r (.load1 (.t 22))⟩,
      ⟨some 24, none, [4052], .call 4048 4 true (.f n12) [.t 14, .t 17, .t 20, .t 23]⟩,
      ⟨some 11, none, [4048, 4049, 4050, 4051], .a 4052 (.alloc [u32 0#32, u32 0#32, u32 0#32, u32 0#32])⟩,
      ⟨none, none, [], .w (.storeN 4 (.t 11) (.t 24))⟩]) (
  .seq (
    .region [
      ⟨some 25, none, [], .p (.mv (.t 1))⟩,
      ⟨some 26, none, [], .p (.iaddrA 4 1 (.t 11) (.c (.int .i64 0)))⟩,
      ⟨some 27, none, [], .r (.load1 (.t 26))⟩,
      ⟨some 28, none, [], .p (.iaddrA 16 1 (.t 5) (.t 25))⟩,
      ⟨none, none, [], .w (.store1 (.t 28) (.t 27))⟩]) (
  .seq (
    .region [
      ⟨some 29, none, [], .p (.mv (.t 2))⟩,
      ⟨some 30, none, [], .p (.iaddrA 4 1 (.t 11) (.c (.int .i64 1)))⟩,
      ⟨some 31, none, [], .r (.load1 (.t 30))⟩,
      ⟨some 32, none, [], .p (.iaddrA 16 1 (.t 5) (.t 29))⟩,
      ⟨none, none, [], .w (.store1 (.t 32) (.t 31))⟩]) (
  .seq (
    .region [
      ⟨some 33, none, [], .p (.mv (.t 3))⟩,
      ⟨some 34, none, [], .p (.iaddrA 4 1 (.t 11) (.c (.int .i64 2)))⟩,
      ⟨some 35, none, [], .r (.load1 (.t 34))⟩,
      ⟨some 36, none, [], .p (.iaddrA 16 1 (.t 5) (.t 33))⟩,
      ⟨none, none, [], .w (.store1 (.t 36) (.t 35))⟩]) (
  .seq (
    .region [
      ⟨some 37, none, [], .p (.mv (.t 4))⟩,
      ⟨some 38, none, [], .p (.iaddrA 4 1 (.t 11) (.c (.int .i64 3)))⟩,
      ⟨some 39, none, [], .r (.load1 (.t 38))⟩,
      ⟨some 40, none, [], .p (.iaddrA 16 1 (.t 5) (.t 37))⟩,
      ⟨none, none, [], .w (.store1 (.t 40) (.t 39))⟩]) (
  .seq (
    .region [
      ⟨some 41, none, [], .r (.loadN 16 (.t 5))⟩,
      ⟨none, none, [], .w (.storeN 16 (.t 10) (.t 41))⟩]) (
  .ret))))))),
  42, [Sum.inr (10, 16, true)]⟩

-- 15 calls [23, 24, 25]
abbrev k15_1 : List Nat := [12, 13, 15, 16]
abbrev a15_1 : List Nat := [15]
abbrev e15_1 (v12 v13 v15 v16 : AV) : Env := [.dead, .dead, .dead, .dead, .dead, .dead, .dead, .dead, .dead, .dead, .dead, .dead, v12, v13, .dead, v15, v16, .dead, .dead, .dead, .dead, .dead, .dead, .dead, .dead, .dead, .dead, .dead, .dead, .dead, .dead, .dead, .dead, .dead, .dead, .dead, .dead, .dead, .dead, .dead, .dead, .dead, .dead, .dead, .dead, .dead, .dead, .dead, .dead, .dead, .dead, .dead, .dead, .dead, .dead, .dead, .dead, .dead, .dead, .dead, .dead, .dead, .dead, .dead, .dead, .dead, .dead, .dead, .dead, .dead, .dead, .dead, .dead, .dead, .dead, .dead, .dead, .dead, .dead, .dead, .dead, .dead, .dead, .dead, .dead, .dead, .dead, .dead, .dead, .dead, .dead, .dead, .dead, .dead, .dead, .dead, .dead, .dead, .dead, .dead, .dead, .dead, .dead, .dead, .dead, .dead, .dead, .dead, .dead]
abbrev x15_1 (v15 : AV) : Env := [.dead, .dead, .dead, .dead, .dead, .dead, .dead, .dead, .dead, .dead, .dead, .dead, .dead, .dead, .dead, v15, .dead, .dead, .dead, .dead, .dead, .dead, .dead, .dead, .dead, .dead, .dead, .dead, .dead, .dead, .dead, .dead, .dead, .dead, .dead, .dead, .dead, .dead, .dead, .dead, .dead, .dead, .dead, .dead, .dead, .dead, .dead, .dead, .dead, .dead, .dead, .dead, .dead, .dead, .dead, .dead, .dead, .dead, .dead, .dead, .dead, .dead, .dead, .dead, .dead, .dead, .dead, .dead, .dead, .dead, .dead, .dead, .dead, .dead, .dead, .dead, .dead, .dead, .dead, .dead, .dead, .dead, .dead, .dead, .dead, .dead, .dead, .dead, .dead, .dead, .dead, .dead, .dead, .dead, .dead, .dead, .dead, .dead, .dead, .dead, .dead, .dead, .dead, .dead, .dead, .dead, .dead, .dead, .dead]
def s15_b1 : SCode :=
  .seq (
    .seq (
      .region [
        ⟨some 92, none, [], .p (.mv (.t 16))⟩,
        ⟨some 93, none, [], .p (.bin .lss (.t 92) (.c (.int .i64 16)))⟩]) (
    .cond (.t 93) (
      .skip) (
      .exit 2))) (
  .seq (
    .block 3 (
      .region [
        ⟨some 96, none, [], .p (.mv (.t 15))⟩,
        ⟨some 97, none, [], .p (.mv (.t 16))⟩,
        ⟨some 98, none, [], .p (.iaddrA 16 1 (.t 13) (.t 97))⟩,
        ⟨some 99, none, [], .r (.load1 (.t 98))⟩,
        ⟨some 100, none, [], .p (.mv (.t 16))⟩,
        ⟨some 101, none, [], .p (.iaddrA 16 1 (.t 12) (.t 100))⟩,
        ⟨some 102, none, [], .r (.load1 (.t 101))⟩,
        ⟨some 103, none, [], .p (.bin .add (.t 99) (.t 102))⟩,
        ⟨some 104, none, [], .a 88032 (.buildS 1 1 [u32 0#32] [(0, 1, .t 103)])⟩,
        ⟨some 105, none, [], .w (.append 88036 1 4 (.t 96) (.t 104))⟩,
        ⟨some 15, none, [], .p (.mv (.t 105))⟩])) (
  .region [
    ⟨some 94, none, [], .p (.mv (.t 16))⟩,
    ⟨some 95, none, [], .p (.bin .add (.t 94) (.c (.int .i64 1)))⟩,
    ⟨some 16, none, [], .p (.mv (.t 95))⟩]))

abbrev k15_0 : List Nat := [12, 13, 14]
abbrev a15_0 : List Nat := [12, 13]
abbrev e15_0 (v12 v13 v14 : AV) : Env := [.dead, .dead, .dead, .dead, .dead, .dead, .dead, .dead, .dead, .dead, .dead, .dead, v12, v13, v14, .dead, .dead, .dead, .dead, .dead, .dead, .dead, .dead, .dead, .dead, .dead, .dead, .dead, .dead, .dead, .dead, .dead, .dead, .dead, .dead, .dead, .dead, .dead, .dead, .dead, .dead, .dead, .dead, .dead, .dead, .dead, .dead, .dead, .dead, .dead, .dead, .dead, .dead, .dead, .dead, .dead, .dead, .dead, .dead, .dead, .dead, .dead, .dead, .dead, .dead, .dead, .dead, .dead, .dead, .dead, .dead, .dead, .dead, .dead, .dead, .dead, .dead, .dead, .dead, .dead, .dead, .dead, .dead, .dead, .dead, .dead, .dead, .dead, .dead, .dead, .dead, .dead, .dead, .dead, .dead, .dead, .dead, .dead, .dead, .dead, .dead, .dead, .dead, .dead, .dead, .dead, .dead, .dead, .dead]
abbrev x15_0 (v12 v13 : AV) : Env := [.dead, .dead, .dead, .dead, .dead, .dead, .dead, .dead, .dead, .dead, .dead, .dead, v12, v13, .dead, .dead, .dead, .dead, .dead, .dead, .dead, .dead, .dead, .dead, .dead, .dead, .dead, .dead, .dead, .dead, .dead, .dead, .dead, .dead, .dead, .dead, .dead, .dead, .dead, .dead, .dead, .dead, .dead, .dead, .dead, .dead, .dead, .dead, .dead, .dead, .dead, .dead, .dead, .dead, .dead, .dead, .dead, .dead, .dead, .dead, .dead, .dead, .dead, .dead, .dead, .dead, .dead, .dead, .dead, .dead, .dead, .dead, .dead, .dead, .dead, .dead, .dead, .dead, .dead, .dead, .dead, .dead, .dead, .dead, .dead, .dead, .dead, .dead, .dead, .dead, .dead, .dead, .dead, .dead, .dead, .dead, .dead, .dead, .dead, .dead, .dead, .dead, .dead, .dead, .dead, .dead, .dead, .dead, .dead]
def s15_b0 (n24 : Nat) : SCode :=
  .seq (
    .seq (
      .region [
        ⟨some 72, none, [], .p (.mv (.t 14))⟩,
        ⟨some 73, none, [], .p (.bin .lss (.t 72) (.c (.int .i64 10)))⟩]) (
    .cond (.t 73) (
      .skip) (
      .exit 0))) (
  .seq (
    .block 1 (
      .seq (
        .region [
          ⟨some 76, none, [], .r (.loadN 16 (.t 13))⟩,
          ⟨some 77, none, [], .call 40004 4 true (.f n24) [.t 76, .c (.int .i64 0), .c (.int .i64 4), .c (.int .i64 8), .c (.int .i64 12)]⟩,
          ⟨none, none, [], .w (.storeN 16 (.t 13) (.t 77))⟩]) (
      .seq (
        .region [
          ⟨some 78, none, [], .r (.loadN 16 (.t 13))⟩,
          ⟨some 79, none, [], .call 44004 4 true (.f n24) [.t 78, .c (.int .i64 1), .c (.int .i64 5), .c (.int .i64 9), .c (.int .i64 13)]⟩,
          ⟨none, none, [], .w (.storeN 16 (.t 13) (.t 79))⟩]) (
      .seq (
        .region [
          ⟨some 80, none, [], .r (.loadN 16 (.t 13))⟩,
          ⟨some 81, none, [], .call 48004 4 true (.f n24) [.t 80, .c (.int .i64 2), .c (.int .i64 6), .c (.int .i64 10), .c (.int .i64 14)]⟩,
          ⟨none, none, [], .w (.storeN 16 (.t 13) (.t 81))⟩]) (
      .seq (
        .region [
          ⟨some 82, none, [], .r (.loadN 16 (.t 13))⟩,
          ⟨some 83, none, [], .call 52004 4 true (.f n24) [.t 82, .c (.int .i64 3), .c (.int .i64 7), .c (.int .i64 11), .c (.int .i64 15)]⟩,
          ⟨none, none, [], .w (.storeN 16 (.t 13) (.t 83))⟩]) (
      .seq (
        .region [
          ⟨some 84, none, [], .r (.loadN 16 (.t 13))⟩,
          ⟨some 85, none, [], .call 56004 4 true (.f n24) [.t 84, .c (.int .i64 0), .c (.int .i64 5), .c (.int .i64 10), .c (.int .i64 15)]⟩,
          ⟨none, none, [], .w (.storeN 16 (.t 13) (.t 85))⟩]) (
      .seq (
        .region [
          ⟨some 86, none, [], .r (.loadN 16 (.t 13))⟩,
          ⟨some 87, none, [], .call 60004 4 true (.f n24) [.t 86, .c (.int .i64 1), .c (.int .i64 6), .c (.int .i64 11), .c (.int .i64 12)]⟩,
          ⟨none, none, [], .w (.storeN 16 (.t 13) (.t 87))⟩]) (
      .seq (
        .region [
          ⟨some 88, none, [], .r (.loadN 16 (.t 13))⟩,
          ⟨some 89, none, [], .call 64004 4 true (.f n24) [.t 88, .c (.int .i64 2), .c (.int .i64 7), .c (.int .i64 8), .c (.int .i64 13)]⟩,
          ⟨none, none, [], .w (.storeN 16 (.t 13) (.t 89))⟩]) (
      .region [
        ⟨some 90, none, [], .r (.loadN 16 (.t 13))⟩,
        ⟨some 91, none, [], .call 68004 4 true (.f n24) [.t 90, .c (.int .i64 3), .c (.int .i64 4), .c (.int .i64 9), .c (.int .i64 14)]⟩,
        ⟨none, none, [], .w (.storeN 16 (.t 13) (.t 91))⟩]))))))))) (
  .region [
    ⟨some 74, none, [], .p (.mv (.t 14))⟩,
    ⟨some 75, none, [], .p (.bin .add (.t 74) (.c (.int .i64 1)))⟩,
    ⟨some 14, none, [], .p (.mv (.t 75))⟩]))

def s15 (n23 n24 n25 : Nat) : SFunc := ⟨
  .seq (
    .region [
      ⟨some 6, none, [], .p (.mv (.c (.str [])))⟩,
      ⟨some 7, none, [], .p (.mv (.c (.int .i64 0)))⟩]) (
  .seq (
    .seq (
      .region [
        ⟨some 18, none, [], .p (.mv (.t 0))⟩,
        ⟨some 19, none, [], .p (.lenV false (.t 18))⟩,
        ⟨some 20, none, [], .p (.bin .neq (.t 19) (.c (.int .i64 32)))⟩,
        ⟨some 21, none, [], .p (.mv (.t 20))⟩,
        ⟨some 22, some (21, false), [], .p (.mv (.t 1))⟩,
        ⟨some 23, some (21, false), [], .p (.lenV false (.t 22))⟩,
        ⟨some 24, some (21, false), [], .p (.bin .neq (.t 23) (.c (.int .i64 12)))⟩,
        ⟨some 25, none, [], .p (.pick (.t 21) (.c (.bool true)) (.t 24))⟩]) (
    .cond (.t 25) (
      .seq (
        .region [
          ⟨some 6, none, [], .p (.mv (.c (.str [])))⟩,
          ⟨some 7, none, [], .p (.mv (.c (.int .i64 7)))⟩]) (
      .ret)) (
      .skip))) (
  .seq (
    .region [
      ⟨some 27, none, [], .p (.mv (.t 0))⟩,
      ⟨some 28, none, [], .call 12004 4 true (.f n23) [.t 27, .c (.bool false)]⟩,
      ⟨some 26, none, [], .p (.mv (.t 28))⟩,
      ⟨some 29, none, [], .p (.extract (.t 26) 0)⟩,
      ⟨some 30, none, [], .p (.extract (.t 26) 1)⟩,
      ⟨some 8, none, [], .p (.mv (.t 29))⟩,
      ⟨some 9, none, [], .p (.mv (.t 30))⟩]) (
  .seq (
    .region [
      ⟨some 32, none, [], .p (.mv (.t 1))⟩,
      ⟨some 33, none, [], .call 16004 4 true (.f n23) [.t 32, .c (.bool false)]⟩,
      ⟨some 31, none, [], .p (.mv (.t 33))⟩,
      ⟨some 34, none, [], .p (.extract (.t 31) 0)⟩,
      ⟨some 35, none, [], .p (.extract (.t 31) 1)⟩,
      ⟨some 10, none, [], .p (.mv (.t 34))⟩,
      ⟨some 11, none, [], .p (.mv (.t 35))⟩]) (
  .seq (
    .region [
      ⟨some 36, none, [], .p (.mv (.t 8))⟩,
      ⟨some 37, none, [], .p (.iaddrS 1 (.t 36) (.c (.int .i64 0)))⟩,
      ⟨some 38, none, [20140], .r (.load1 (.t 37))⟩,
      ⟨some 39, none, [], .p (.mv (.t 8))⟩,
      ⟨some 40, none, [], .p (.iaddrS 1 (.t 39) (.c (.int .i64 1)))⟩,
      ⟨some 41, none, [20140], .r (.load1 (.t 40))⟩,
      ⟨some 42, none, [], .p (.mv (.t 8))⟩,
      ⟨some 43, none, [], .p (.iaddrS 1 (.t 42) (.c (.int .i64 2)))⟩,
      ⟨some 44, none, [20140], .r (.load1 (.t 43))⟩,
      ⟨some 45, none, [], .p (.mv (.t 8))⟩,
      ⟨some 46, none, [], .p (.iaddrS 1 (.t 45) (.c (.int .i64 3)))⟩,
      ⟨some 47, none, [20140], .r (.load1 (.t 46))⟩,
      ⟨some 48, none, [], .p (.mv (.t 8))⟩,
      ⟨some 49, none, [], .p (.iaddrS 1 (.t 48) (.c (.int .i64 4)))⟩,
      ⟨some 50, none, [20140], .r (.load1 (.t 49))⟩,
      ⟨some 51, none, [], .p (.mv (.t 8))⟩,
      ⟨some 52, none, [], .p (.iaddrS 1 (.t 51) (.c (.int .i64 5)))⟩,
      ⟨some 53, none, [20140], .r (.load1 (.t 52))⟩,
      ⟨some 54, none, [], .p (.mv (.t 8))⟩,
      ⟨some 55, none, [], .p (.iaddrS 1 (.t 54) (.c (.int .i64 6)))⟩,
      ⟨some 56, none, [20140], .r (.load1 (.t 55))⟩,
      ⟨some 57, none, [], .p (.mv (.t 8))⟩,
      ⟨some 58, none, [], .p (.iaddrS 1 (.t 57) (.c (.int .i64 7)))⟩,
      ⟨some 59, none, [20140], .r (.load1 (.t 58))⟩,
      ⟨some 60, none, [], .p (.mv (.t 2))⟩,
      ⟨some 61, none, [], .p (.mv (.t 10))⟩,
      ⟨some 62, none, [], .p (.iaddrS 1 (.t 61) (.c (.int .i64 0)))⟩,
      ⟨some 63, none, [20140], .r (.load1 (.t 62))⟩,
      ⟨some 64, none, [], .p (.mv (.t 10))⟩,
      ⟨some 65, none, [], .p (.iaddrS 1 (.t 64) (.c (.int .i64 1)))⟩,
      ⟨some 66, none, [20140], .r (.load1 (.t 65))⟩,
      ⟨some 67, none, [], .p (.mv (.t 10))⟩,
      ⟨some 68, none, [], .p (.iaddrS 1 (.t 67) (.c (.int .i64 2)))⟩,
      ⟨some 69, none, [20140], .r (.load1 (.t 68))⟩,
      ⟨some 70, none, [], .p (.build [u32 0#32, u32 0#32, u32 0#32, u32 0#32, u32 0#32, u32 0#32, u32 0#32, u32 0#32, u32 0#32, u32 0#32, u32 0#32, u32 0#32, u32 0#32, u32 0#32, u32 0#32, u32 0#32] [(0, 1, .c (u32 1634760805#32)), (1, 1, .c (u32 857760878#32)), (2, 1, .c (u32 2036477234#32)), (3, 1, .c (u32 1797285236#32)), (4, 1, .t 38), (5, 1, .t 41), (6, 1, .t 44), (7, 1, .t 47), (8, 1, .t 50), (9, 1, .t 53), (10, 1, .t 56), (11, 1, .t 59), (12, 1, .t 60), (13, 1, .t 63), (14, 1, .t 66), (15, 1, .t 69)])⟩,
      ⟨some 12, none, [], .a 20140 (.alloc [u32 0#32, u32 0#32, u32 0#32, u32 0#32, u32 0#32, u32 0#32, u32 0#32, u32 0#32, u32 0#32, u32 0#32, u32 0#32, u32 0#32, u32 0#32, u32 0#32, u32 0#32, u32 0#32])⟩,
      ⟨none, none, [], .w (.storeN 16 (.t 12) (.t 70))⟩]) (
  .seq (
    .region [
      ⟨some 71, none, [], .r (.loadN 16 (.t 12))⟩,
      ⟨some 13, none, [], .a 24004 (.alloc [u32 0#32, u32 0#32, u32 0#32, u32 0#32, u32 0#32, u32 0#32, u32 0#32, u32 0#32, u32 0#32, u32 0#32, u32 0#32, u32 0#32, u32 0#32, u32 0#32, u32 0#32, u32 0#32])⟩,
      ⟨none, none, [], .w (.storeN 16 (.t 13) (.t 71))⟩]) (
  .seq (
    .seq (
      .region [
        ⟨some 14, none, [], .p (.mv (.c (.int .i64 0)))⟩]) (
    .block 0 (
      .loop k15_0 a15_0 (s15_b0 n24)))) (
  .seq (
    .region [
      ⟨some 15, none, [], .p (.mv (.c (.slice none 0 0)))⟩]) (
  .seq (
    .seq (
      .region [
        ⟨some 16, none, [], .p (.mv (.c (.int .i64 0)))⟩]) (
    .block 2 (
      .loop k15_1 a15_1 s15_b1))) (
  .seq (
    .region [
      ⟨some 106, none, [], .p (.mv (.t 15))⟩,
      ⟨some 107, none, [], .call 92004 4 true (.f n25) [.t 106, .c (.bool false)]⟩,
      ⟨some 17, none, [], .p (.mv (.t 107))⟩]) (
  .seq (
    .region [
      ⟨some 108, none, [], .p (.mv (.t 17))⟩,
      ⟨some 6, none, [], .p (.mv (.t 108))⟩,
      ⟨some 7, none, [], .p (.mv (.c (.int .i64 0)))⟩]) (
  .ret))))))))))),
  109, [Sum.inl 6, Sum.inl 7]⟩

-- 17 calls [15, 26]
abbrev k17_0 : List Nat := [0, 1, 2, 3, 10]
abbrev a17_0 : List Nat := [3, 10]
abbrev e17_0 (v0 v1 v2 v3 v10 : AV) : Env := [v0, v1, v2, v3, .dead, .dead, .dead, .dead, .dead, .dead, v10, .dead, .dead, .dead, .dead, .dead, .dead, .dead, .dead, .dead, .dead, .dead, .dead, .dead, .dead, .dead, .dead, .dead, .dead, .dead, .dead, .dead, .dead, .dead, .dead, .dead, .dead, .dead, .dead, .dead, .dead, .dead, .dead, .dead, .dead, .dead]
abbrev x17_0 (v3 v10 : AV) : Env := [.dead, .dead, .dead, v3, .dead, .dead, .dead, .dead, .dead, .dead, v10, .dead, .dead, .dead, .dead, .dead, .dead, .dead, .dead, .dead, .dead, .dead, .dead, .dead, .dead, .dead, .dead, .dead, .dead, .dead, .dead, .dead, .dead, .dead, .dead, .dead, .dead, .dead, .dead, .dead, .dead, .dead, .dead, .dead, .dead, .dead]
def s17_b0 (n15 : Nat) : SCode :=
  .seq (
    .seq (
      .region [
        ⟨some 25, none, [], .p (.mv (.t 10))⟩,
        ⟨some 26, none, [], .p (.lenV false (.t 25))⟩,
        ⟨some 27, none, [], .p (.mv (.t 3))⟩,
        ⟨some 28, none, [], .p (.lenV false (.t 27))⟩,
        ⟨some 29, none, [], .p (.bin .lss (.t 26) (.t 28))⟩]) (
    .cond (.t 29) (
      .skip) (
      .exit 0))) (
  .block 1 (
    .seq (
      .region [
        ⟨some 31, none, [], .p (.mv (.t 0))⟩,
        ⟨some 32, none, [], .p (.mv (.t 1))⟩,
        ⟨some 33, none, [], .p (.mv (.t 2))⟩,
        ⟨some 34, none, [], .call 28012 4 true (.f n15) [.t 31, .t 32, .t 33]⟩,
        ⟨some 30, none, [], .p (.mv (.t 34))⟩,
        ⟨some 35, none, [], .p (.extract (.t 30) 0)⟩,
        ⟨some 36, none, [], .p (.extract (.t 30) 1)⟩,
        ⟨some 11, none, [], .p (.mv (.t 35))⟩,
        ⟨some 12, none, [], .p (.mv (.t 36))⟩]) (
    .seq (
      .region [
        ⟨some 37, none, [], .p (.mv (.t 10))⟩,
        ⟨some 38, none, [], .p (.mv (.t 11))⟩,
        ⟨some 39, none, [], .p (.bin .add (.t 37) (.t 38))⟩,
        ⟨some 10, none, [], .p (.mv (.t 39))⟩]) (
    .region [
      ⟨some 40, none, [], .p (.mv (.t 2))⟩,
      ⟨some 41, none, [], .p (.bin .add (.t 40) (.c (u32 1#32)))⟩,
      ⟨some 2, none, [], .p (.mv (.t 41))⟩]))))

def s17 (n15 n26 : Nat) : SFunc := ⟨
  .seq (
    .region [
      ⟨some 8, none, [], .p (.mv (.c (.str [])))⟩,
      ⟨some 9, none, [], .p (.mv (.c (.int .i64 0)))⟩]) (
  .seq (
    .seq (
      .region [
        ⟨some 14, none, [], .p (.mv (.t 0))⟩,
        ⟨some 15, none, [], .p (.lenV false (.t 14))⟩,
        ⟨some 16, none, [], .p (.bin .neq (.t 15) (.c (.int .i64 32)))⟩,
        ⟨some 17, none, [], .p (.mv (.t 16))⟩,
        ⟨some 18, some (17, false), [], .p (.mv (.t 1))⟩,
        ⟨some 19, some (17, false), [], .p (.lenV false (.t 18))⟩,
        ⟨some 20, some (17, false), [], .p (.bin .neq (.t 19) (.c (.int .i64 12)))⟩,
        ⟨some 21, none, [], .p (.pick (.t 17) (.c (.bool true)) (.t 20))⟩]) (
    .cond (.t 21) (
      .seq (
        .region [
          ⟨some 8, none, [], .p (.mv (.c (.str [])))⟩,
          ⟨some 9, none, [], .p (.mv (.c (.int .i64 7)))⟩]) (
      .ret)) (
      .skip))) (
  .seq (
    .seq (
      .region [
        ⟨some 22, none, [], .p (.mv (.t 3))⟩,
        ⟨some 23, none, [], .p (.lenV false (.t 22))⟩,
        ⟨some 24, none, [], .p (.bin .gtr (.t 23) (.c (.int .i64 65536)))⟩]) (
    .cond (.t 24) (
      .seq (
        .region [
          ⟨some 8, none, [], .p (.mv (.c (.str [])))⟩,
          ⟨some 9, none, [], .p (.mv (.c (.int .i64 5)))⟩]) (
      .ret)) (
      .skip))) (
  .seq (
    .region [
      ⟨some 10, none, [], .p (.mv (.c (.str [])))⟩]) (
  .seq (
    .block 0 (
      .loop k17_0 a17_0 (s17_b0 n15))) (
  .seq (
    .region [
      ⟨some 42, none, [], .p (.mv (.t 3))⟩,
      ⟨some 43, none, [], .p (.mv (.t 10))⟩,
      ⟨some 44, none, [], .call 40008 4 true (.f n26) [.t 42, .t 43]⟩,
      ⟨some 13, none, [], .p (.mv (.t 44))⟩]) (
  .seq (
    .region [
      ⟨some 45, none, [], .p (.mv (.t 13))⟩,
      ⟨some 8, none, [], .p (.mv (.t 45))⟩,
      ⟨some 9, none, [], .p (.mv (.c (.int .i64 0)))⟩]) (
  .ret))))))),
  46, [Sum.inl 8, Sum.inl 9]⟩


/-! ### a quarter of a round -/
/-- Half of it. -/
def h4 (m n : Nat) (q : BitVec 32 × BitVec 32 × BitVec 32 × BitVec 32) : BitVec 32 × BitVec 32 × BitVec 32 × BitVec 32 :=
  (q.1 + q.2.1, W.rot (q.2.1 ^^^ (q.2.2.1 + W.rot (q.2.2.2 ^^^ (q.1 + q.2.1)) m)) n, q.2.2.1 + W.rot (q.2.2.2 ^^^ (q.1 + q.2.1)) m, W.rot (q.2.2.2 ^^^ (q.1 + q.2.1)) m)
def q4 (a b c d : BitVec 32) : BitVec 32 × BitVec 32 × BitVec 32 × BitVec 32 := h4 8 7 (h4 16 12 (a, b, c, d))

theorem l10 {SP : SProg} {n19 : Nat} (h19 : SP.fn n19 = some W.s17) (k : Nat) (M : Mem) (a b c d : BitVec 32) (n : Nat) :
    fgt a10_0 (rnd0 (some (e10_0 (u32 a) (u32 b) (u32 c) (u32 d) (.agg [.int .i64 16, .int .i64 12, .int .i64 8, .int .i64 7]) (.int .i64 0), mk [] :: M)) k10_0 (callFn SP (k + 1)) (s10_b0 n19) (n + 2)) =
      some (.exit 0, x10_0 (u32 (q4 a b c d).1) (u32 (q4 a b c d).2.1) (u32 (q4 a b c d).2.2.1) (u32 (q4 a b c d).2.2.2), mk [] :: M) := by
  have hl := fun k M x n => W.left_ev h19 k M x n
  rw [rnd0_some]
  conv => lhs; arg 2; arg 1; rw [s10_b0]
  simp (disch := omega) [if_pos, hl, show IntKind.wrap .i64 1 = 1 from rfl, show IntKind.wrap .i64 2 = 2 from rfl]
  rw [rnd0_some]
  conv => lhs; arg 2; arg 1; rw [s10_b0]
  simp (disch := omega) [if_pos, hl, show IntKind.wrap .i64 1 = 1 from rfl, show IntKind.wrap .i64 2 = 2 from rfl]
  rw [rnd0_some]
  conv => lhs; arg 2; arg 1; rw [s10_b0]
  simp (disch := omega) [if_pos, hl, show IntKind.wrap .i64 1 = 1 from rfl, show IntKind.wrap .i64 2 = 2 from rfl]
  exact ⟨rfl, rfl, rfl, rfl⟩

theorem quarter_ev {SP : SProg} {n10 n19 : Nat} (h10 : SP.fn n10 = some (s10 n19)) (h19 : SP.fn n19 = some W.s17) (k : Nat) (M : Mem) (a b c d : BitVec 32) :
    callFn SP (k + 2) n10 [u32 a, u32 b, u32 c, u32 d] M = some (.tuple [u32 (q4 a b c d).1, u32 (q4 a b c d).2.1, u32 (q4 a b c d).2.2.1, u32 (q4 a b c d).2.2.2], [], M) := by
  have hl := l10 h19 k M a b c d 1
  rw [call_fn (h10.trans rfl) (by simp)]
  simp (disch := omega) [if_pos]
  rw [ev_loop 3 (by simp) hl (by omega)]
  simp (disch := omega) [if_pos]

theorem refquarter_ev {SP : SProg} {n12 n20 : Nat} (h12 : SP.fn n12 = some (s12 n20)) (h20 : SP.fn n20 = some W.s18) (k : Nat) (M : Mem) (a b c d : BitVec 32) :
    callFn SP (k + 2) n12 [u32 a, u32 b, u32 c, u32 d] M = some (.agg [u32 (q4 a b c d).1, u32 (q4 a b c d).2.1, u32 (q4 a b c d).2.2.1, u32 (q4 a b c d).2.2.2], [], M) := by
  have hl := fun k M x n hn => W.refleft_ev h20 k M x n hn
  rw [call_fn (h12.trans rfl) (by simp)]
  simp (disch := omega) [if_pos, hl]
  refine ⟨rfl, rfl, rfl, rfl⟩

/-! ### a state of sixteen words -/
abbrev L16 := List (BitVec 32)
def qs (l : L16) (a b c d : Nat) : L16 :=
  (((l.set a (q4 (nth l a) (nth l b) (nth l c) (nth l d)).1).set b (q4 (nth l a) (nth l b) (nth l c) (nth l d)).2.1).set c (q4 (nth l a) (nth l b) (nth l c) (nth l d)).2.2.1).set d (q4 (nth l a) (nth l b) (nth l c) (nth l d)).2.2.2
theorem qs_len (l : L16) (a b c d : Nat) : (qs l a b c d).length = l.length := by simp [qs]

theorem qs_fold (l : L16) (a b c d : Nat) : (((l.set a (q4 (nth l a) (nth l b) (nth l c) (nth l d)).1).set b (q4 (nth l a) (nth l b) (nth l c) (nth l d)).2.1).set c (q4 (nth l a) (nth l b) (nth l c) (nth l d)).2.2.1).set d (q4 (nth l a) (nth l b) (nth l c) (nth l d)).2.2.2 = qs l a b c d := rfl

theorem q_ev {SP : SProg} {n10 n19 n28 : Nat} (h10 : SP.fn n10 = some (s10 n19)) (h19 : SP.fn n19 = some W.s17) (h28 : SP.fn n28 = some (s28 n10)) (k : Nat) (M : Mem) (d0 id : Nat) (l : L16) (fl : Bool) (a b c d : Nat)
    (hl : l.length = 16) (ha : a < 16) (hb : b < 16) (hc : c < 16) (hdd : d < 16) (hd : d0 < M.length) (hg : ∀ o, get M ⟨d0, id, 16, o⟩ = some (.cells (l.map u32) true fl)) :
    callFn SP (k + 3) n28 [.ptr (some ⟨d0, id, 16, 0⟩), .int .i64 a, .int .i64 b, .int .i64 c, .int .i64 d] M = some (.undef, [], put M d0 id (.cells ((qs l a b c d).map u32) true fl)) := by
  have hn1 : d0 ≠ M.length := by omega
  have ga : ∀ i, i < 16 → (l.map u32)[i]? = some (u32 (nth l i)) := fun i hi => by rw [List.getElem?_map, getElem?_nth l i (by omega)]; rfl
  have hq := fun k M a b c d => quarter_ev h10 h19 k M a b c d
  rw [call_fn (h28.trans rfl) (by simp)]
  simp (disch := omega) [-List.map_set, -List.getElem?_map, if_pos, hq, get_low, put_low, get_sput, put_sput, hd, hg, ga, hn1]
  rfl

/-- The same, of a state that is handed by itself. -/
theorem rq_ev {SP : SProg} {n12 n20 n24 : Nat} (h12 : SP.fn n12 = some (s12 n20)) (h20 : SP.fn n20 = some W.s18) (h24 : SP.fn n24 = some (s24 n12)) (k : Nat) (M : Mem) (l : L16) (a b c d : Nat)
    (hl : l.length = 16) (ha : a < 16) (hb : b < 16) (hc : c < 16) (hdd : d < 16) :
    callFn SP (k + 3) n24 [.agg (l.map u32), .int .i64 a, .int .i64 b, .int .i64 c, .int .i64 d] M = some (.agg ((qs l a b c d).map u32), [], M) := by
  have ga : ∀ i, i < 16 → (l.map u32)[i]? = some (u32 (nth l i)) := fun i hi => by rw [List.getElem?_map, getElem?_nth l i (by omega)]; rfl
  have hq := fun k M a b c d => refquarter_ev h12 h20 k M a b c d
  rw [call_fn (h24.trans rfl) (by simp)]
  have hL := qs_len l a b c d
  rw [hl] at hL
  simp (disch := omega) [-List.map_set, -List.getElem?_map, if_pos, hq, ga, qs_fold l a b c d]
  generalize qs l a b c d = L at *
  have ht : List.take 16 (List.map u32 L) = List.map u32 L := List.take_of_length_le (by simp [hL])
  simp (disch := omega) [-List.map_set, if_pos, hL, ht, expL_map u32 (fun d s cs x => rfl)]

theorem snd_get (M : Mem) (i0 id z : Nat) (c0 c : Con) (l : List (Nat × Con)) (hi : id ≠ i0) (h : c.size = z) : ∀ o, get (mk ((i0, c0) :: (id, c) :: l) :: M) ⟨M.length, id, z, o⟩ = some c := fun o => by
  rw [get_top, mk_cons, if_neg hi, mk_cons, if_pos rfl]
  simp only [h, if_true]
theorem snd_put (M : Mem) (i0 id : Nat) (c0 c x : Con) (l : List (Nat × Con)) (hi : id ≠ i0) : put (mk ((i0, c0) :: (id, c) :: l) :: M) M.length id x = mk ((i0, c0) :: (id, x) :: l) :: M := by
  rw [put_top, setAt_mk]
  simp [ups, hi, Ne.symm hi]

theorem q_snd {SP : SProg} {n10 n19 n28 : Nat} (h10 : SP.fn n10 = some (s10 n19)) (h19 : SP.fn n19 = some W.s17) (h28 : SP.fn n28 = some (s28 n10)) (k : Nat) (M : Mem) (i0 id : Nat) (c0 : Con) (l : L16) (fl : Bool) (a b c d : Int) (t : List (Nat × Con))
    (hi : id ≠ i0) (hl : l.length = 16) (ha : 0 ≤ a ∧ a < 16) (hb : 0 ≤ b ∧ b < 16) (hc : 0 ≤ c ∧ c < 16) (hdd : 0 ≤ d ∧ d < 16) :
    callFn SP (k + 3) n28 [.ptr (some ⟨M.length, id, 16, 0⟩), .int .i64 a, .int .i64 b, .int .i64 c, .int .i64 d] (mk ((i0, c0) :: (id, .cells (l.map u32) true fl) :: t) :: M) =
      some (.undef, [], mk ((i0, c0) :: (id, .cells ((qs l a.toNat b.toNat c.toNat d.toNat).map u32) true fl) :: t) :: M) := by
  have h := q_ev h10 h19 h28 k (mk ((i0, c0) :: (id, .cells (l.map u32) true fl) :: t) :: M) M.length id l fl a.toNat b.toNat c.toNat d.toNat hl (by omega) (by omega) (by omega) (by omega) (by simp) (snd_get M i0 id 16 c0 _ t hi (by simp [hl]))
  rw [snd_put _ _ _ _ _ _ _ hi, Int.toNat_of_nonneg ha.1, Int.toNat_of_nonneg hb.1, Int.toNat_of_nonneg hc.1, Int.toNat_of_nonneg hdd.1] at h
  exact h

theorem rq_int {SP : SProg} {n12 n20 n24 : Nat} (h12 : SP.fn n12 = some (s12 n20)) (h20 : SP.fn n20 = some W.s18) (h24 : SP.fn n24 = some (s24 n12)) (k : Nat) (M : Mem) (l : L16) (a b c d : Int)
    (hl : l.length = 16) (ha : 0 ≤ a ∧ a < 16) (hb : 0 ≤ b ∧ b < 16) (hc : 0 ≤ c ∧ c < 16) (hdd : 0 ≤ d ∧ d < 16) :
    callFn SP (k + 3) n24 [.agg (l.map u32), .int .i64 a, .int .i64 b, .int .i64 c, .int .i64 d] M = some (.agg ((qs l a.toNat b.toNat c.toNat d.toNat).map u32), [], M) := by
  have h := rq_ev h12 h20 h24 k M l a.toNat b.toNat c.toNat d.toNat hl (by omega) (by omega) (by omega) (by omega)
  rw [Int.toNat_of_nonneg ha.1, Int.toNat_of_nonneg hb.1, Int.toNat_of_nonneg hc.1, Int.toNat_of_nonneg hdd.1] at h
  exact h

/-! ### ten double rounds -/
def qa (l : L16) : L16 := qs (qs (qs (qs l 0 4 8 12) 1 5 9 13) 2 6 10 14) 3 7 11 15
def qb (l : L16) : L16 := qs (qs (qs (qs l 0 5 10 15) 1 6 11 12) 2 7 8 13) 3 4 9 14
theorem qa_len (l : L16) : (qa l).length = l.length := by simp [qa, qs_len]
theorem qb_len (l : L16) : (qb l).length = l.length := by simp [qb, qs_len]
def rr (l : L16) : Nat → L16
  | 0 => l
  | n + 1 => qb (qa (rr l n))
theorem rr_len (l : L16) : ∀ n, (rr l n).length = l.length
  | 0 => rfl
  | n + 1 => by rw [rr, qb_len, qa_len, rr_len l n]

section
variable {SP : SProg} {n10 n19 n28 : Nat} (h10 : SP.fn n10 = some (s10 n19)) (h19 : SP.fn n19 = some W.s17) (h28 : SP.fn n28 = some (s28 n10))
include h10 h19 h28

theorem l22_1 (k : Nat) (M : Mem) (F : L16) (l : L16) (hF : F.length = 16) (hl : l.length = 16) (r : Int) (n : Nat) :
    fgt a22_1 (rnd0 (some (e22_1 (.ptr (some ⟨M.length, 12000, 16, 0⟩)) (.ptr (some ⟨M.length, 20004, 16, 0⟩)) (.int .i64 r) (.int .i64 0), mk [(12000, .cells (F.map u32) true true), (20004, .cells (l.map u32) true true)] :: M)) k22_1 (callFn SP (k + 3)) (s22_b1 n28) (n + 4)) =
      some (.exit 2, x22_1 (.ptr (some ⟨M.length, 12000, 16, 0⟩)) (.ptr (some ⟨M.length, 20004, 16, 0⟩)) (.int .i64 r), mk [(12000, .cells (F.map u32) true true), (20004, .cells ((qa l).map u32) true true)] :: M) := by
  have hq := q_snd h10 h19 h28
  have w1 : IntKind.wrap .i64 1 = 1 := rfl
  have w2 : IntKind.wrap .i64 2 = 2 := rfl
  have w3 : IntKind.wrap .i64 3 = 3 := rfl
  have w4 : IntKind.wrap .i64 4 = 4 := rfl
  rw [rnd0_some]
  conv => lhs; arg 2; arg 1; rw [s22_b1]
  simp (disch := first | omega | (simp [qs_len, hl]; done) | (simp; omega)) [hq, w1, w2, w3, w4, if_pos, IntWalk.i64_in]
  rw [rnd0_some]
  conv => lhs; arg 2; arg 1; rw [s22_b1]
  simp (disch := first | omega | (simp [qs_len, hl]; done) | (simp; omega)) [hq, w1, w2, w3, w4, if_pos, IntWalk.i64_in]
  rw [rnd0_some]
  conv => lhs; arg 2; arg 1; rw [s22_b1]
  simp (disch := first | omega | (simp [qs_len, hl]; done) | (simp; omega)) [hq, w1, w2, w3, w4, if_pos, IntWalk.i64_in]
  rw [rnd0_some]
  conv => lhs; arg 2; arg 1; rw [s22_b1]
  simp (disch := first | omega | (simp [qs_len, hl]; done) | (simp; omega)) [hq, w1, w2, w3, w4, if_pos, IntWalk.i64_in]
  rw [rnd0_some]
  conv => lhs; arg 2; arg 1; rw [s22_b1]
  simp (disch := first | omega | (simp [qs_len, hl]; done) | (simp; omega)) [hq, w1, w2, w3, w4, if_pos, IntWalk.i64_in]
  rfl

theorem l22_2 (k : Nat) (M : Mem) (F : L16) (l : L16) (hF : F.length = 16) (hl : l.length = 16) (r : Int) (n : Nat) :
    fgt a22_2 (rnd0 (some (e22_2 (.ptr (some ⟨M.length, 12000, 16, 0⟩)) (.ptr (some ⟨M.length, 20004, 16, 0⟩)) (.int .i64 r) (.int .i64 0), mk [(12000, .cells (F.map u32) true true), (20004, .cells (l.map u32) true true)] :: M)) k22_2 (callFn SP (k + 3)) (s22_b2 n28) (n + 4)) =
      some (.exit 4, x22_2 (.ptr (some ⟨M.length, 12000, 16, 0⟩)) (.ptr (some ⟨M.length, 20004, 16, 0⟩)) (.int .i64 r), mk [(12000, .cells (F.map u32) true true), (20004, .cells ((qb l).map u32) true true)] :: M) := by
  have hq := q_snd h10 h19 h28
  have w1 : IntKind.wrap .i64 1 = 1 := rfl
  have w2 : IntKind.wrap .i64 2 = 2 := rfl
  have w3 : IntKind.wrap .i64 3 = 3 := rfl
  have w4 : IntKind.wrap .i64 4 = 4 := rfl
  rw [rnd0_some]
  conv => lhs; arg 2; arg 1; rw [s22_b2]
  simp (disch := first | omega | (simp [qs_len, hl]; done) | (simp; omega)) [hq, w1, w2, w3, w4, if_pos, IntWalk.i64_in]
  rw [rnd0_some]
  conv => lhs; arg 2; arg 1; rw [s22_b2]
  simp (disch := first | omega | (simp [qs_len, hl]; done) | (simp; omega)) [hq, w1, w2, w3, w4, if_pos, IntWalk.i64_in]
  rw [rnd0_some]
  conv => lhs; arg 2; arg 1; rw [s22_b2]
  simp (disch := first | omega | (simp [qs_len, hl]; done) | (simp; omega)) [hq, w1, w2, w3, w4, if_pos, IntWalk.i64_in]
  rw [rnd0_some]
  conv => lhs; arg 2; arg 1; rw [s22_b2]
  simp (disch := first | omega | (simp [qs_len, hl]; done) | (simp; omega)) [hq, w1, w2, w3, w4, if_pos, IntWalk.i64_in]
  rw [rnd0_some]
  conv => lhs; arg 2; arg 1; rw [s22_b2]
  simp (disch := first | omega | (simp [qs_len, hl]; done) | (simp; omega)) [hq, w1, w2, w3, w4, if_pos, IntWalk.i64_in]
  rfl

theorem l22_0 (k : Nat) (M : Mem) (F : L16) (hF : F.length = 16) (j : Nat) : ∀ (i n : Nat), i + j = 10 → j < n →
    fgt a22_0 (rnd0 (some (e22_0 (.ptr (some ⟨M.length, 12000, 16, 0⟩)) (.ptr (some ⟨M.length, 20004, 16, 0⟩)) (.int .i64 i), mk [(12000, .cells (F.map u32) true true), (20004, .cells ((rr F i).map u32) true true)] :: M)) k22_0 (callFn SP (k + 3)) (s22_b0 n28) n) =
      some (.exit 0, x22_0 (.ptr (some ⟨M.length, 12000, 16, 0⟩)) (.ptr (some ⟨M.length, 20004, 16, 0⟩)), mk [(12000, .cells (F.map u32) true true), (20004, .cells ((rr F 10).map u32) true true)] :: M) := by
  induction j with
  | zero =>
    intro i n h hn
    obtain rfl : i = 10 := by omega
    rw [rnd0_some]
    conv => lhs; arg 2; arg 1; rw [s22_b0]
    simp
  | succ j ih0 =>
    intro i n h hn
    obtain ⟨n, rfl⟩ : ∃ m, n = m + 1 := ⟨n - 1, by omega⟩
    have ih := ih0 (i + 1) n (by omega) (by omega)
    have hr : (rr F i).length = 16 := by rw [rr_len, hF]
    have q1 := l22_1 h10 h19 h28 k M F (rr F i) hF hr i 1
    have q2 := l22_2 h10 h19 h28 k M F (qa (rr F i)) hF (by rw [qa_len, hr]) i 1
    rw [rr] at ih
    have hi : (i : Int) < 10 := by omega
    rw [rnd0_some]
    conv => lhs; arg 2; arg 1; rw [s22_b0]
    simp (disch := omega) [hi]
    rw [ev_loop 5 (by simp) q1 (by omega)]
    simp (disch := omega) []
    rw [ev_loop 5 (by simp) q2 (by omega)]
    simpa (disch := omega) [IntWalk.i64_in] using ih
end

/-! ### the key stream -/
/-- The words of a state, each added to what it was. -/
def ad (a b : L16) (i : Nat) : L16 := fil (fun p => nth a p + nth b p) (0#32) 16 i
def sums (a b : L16) : L16 := tab (fun p => nth a p + nth b p) 16
/-- The first i of them are added. -/
def adn (a b : L16) (i : Nat) : L16 := tab (fun p => if p < i then nth a p + nth b p else nth a p) 16
theorem adn_len (a b : L16) (i : Nat) : (adn a b i).length = 16 := by simp [adn]
theorem adn_zero (a b : L16) (h : a.length = 16) : adn a b 0 = a := tab_eq _ _ _ h fun i hi => by simp
theorem adn_all (a b : L16) : adn a b 16 = sums a b := tab_congr _ _ _ fun i hi => if_pos hi
theorem adn_nth (a b : L16) (i : Nat) (h : i < 16) : nth (adn a b i) i = nth a i := by
  rw [adn, nth_tab _ _ _ h, if_neg (by omega)]
theorem adn_set (a b : L16) (i : Nat) (h : i < 16) : (adn a b i).set i (nth a i + nth b i) = adn a b (i + 1) := by
  refine nth_ext (by simp [adn]) fun k hk => ?_
  simp [adn] at hk
  rw [nth_set _ _ _ _ (by rw [adn_len]; omega), adn, nth_tab _ _ _ hk, adn, nth_tab _ _ _ hk]
  by_cases h1 : i = k
  · subst h1; simp
  · rw [if_neg h1]
    by_cases h2 : k < i
    · rw [if_pos h2, if_pos (by omega)]
    · rw [if_neg h2, if_neg (by omega)]

theorem l22_3 (C : Det.Calls) (M : Mem) (F A : L16) (hF : F.length = 16) (j : Nat) : ∀ (i n : Nat), i + j = 16 → j < n →
    fgt a22_3 (rnd0 (some (e22_3 (.ptr (some ⟨M.length, 12000, 16, 0⟩)) (.ptr (some ⟨M.length, 20004, 16, 0⟩)) (.int .i64 i), mk [(12000, .cells (F.map u32) true true), (20004, .cells ((adn A F i).map u32) true true)] :: M)) k22_3 C s22_b3 n) =
      some (.exit 6, x22_3 (.ptr (some ⟨M.length, 20004, 16, 0⟩)), mk [(20004, .cells ((sums A F).map u32) true true)] :: M) := by
  induction j with
  | zero =>
    intro i n h hn
    obtain rfl : i = 16 := by omega
    rw [rnd0_some]
    conv => lhs; arg 2; arg 1; rw [s22_b3]
    rw [adn_all]
    simp
  | succ j ih0 =>
    intro i n h hn
    obtain ⟨n, rfl⟩ : ∃ m, n = m + 1 := ⟨n - 1, by omega⟩
    have ih := ih0 (i + 1) n (by omega) (by omega)
    have hi : (i : Int) < 16 := by omega
    have hi2 : i < 16 := by omega
    have hl := adn_len A F i
    have g1 : (F.map u32)[i]? = some (u32 (nth F i)) := by rw [List.getElem?_map, getElem?_nth F i (by omega)]; rfl
    have g2 : ((adn A F i).map u32)[i]? = some (u32 (nth A i)) := by rw [List.getElem?_map, getElem?_nth _ i (by omega), adn_nth A F i hi2]; rfl
    have hs : ((adn A F i).map u32).set i (u32 (nth A i + nth F i)) = (adn A F (i + 1)).map u32 := by rw [← adn_set A F i hi2, List.map_set]
    rw [rnd0_some]
    conv => lhs; arg 2; arg 1; rw [s22_b3]
    simpa (disch := omega) [-List.getElem?_map, -List.map_set, hi, hi2, g1, g2, hs, hl, hF, IntWalk.i64_in] using ih

/-- The words that it begins with. -/
def first (key nonce : List UInt8) (c : BitVec 32) : L16 := [0x61707865#32, 0x3320646e#32, 0x79622d32#32, 0x6b206574#32] ++ tab (W.wat false key) 8 ++ [c] ++ tab (W.wat false nonce) 3
theorem first_len (key nonce : List UInt8) (c : BitVec 32) : (first key nonce c).length = 16 := by simp [first]
def stream (key nonce : List UInt8) (c : BitVec 32) : List UInt8 := W.tx false (sums (rr (first key nonce c) 10) (first key nonce c))
theorem sums_len (a b : L16) : (sums a b).length = 16 := by simp [sums]
theorem stream_len (key nonce : List UInt8) (c : BitVec 32) : (stream key nonce c).length = 64 := by rw [stream, W.tx_len, sums_len]

abbrev sigma : List UInt8 := [101, 120, 112, 97, 110, 100, 32, 51, 50, 45, 98, 121, 116, 101, 32, 107]
theorem sigma_words (key : List UInt8) : tab (W.wat false (sigma ++ key)) 12 = [0x61707865#32, 0x3320646e#32, 0x79622d32#32, 0x6b206574#32] ++ tab (W.wat false key) 8 := by
  have h0 : ∀ i, i < 16 → nth (sigma ++ key) i = nth sigma i := fun i hi => by
    simp only [nth, List.getD]
    rw [List.getElem?_append_left (by simpa using hi)]
  have h1 : ∀ i, nth (sigma ++ key) (16 + i) = nth key i := fun i => by
    simp only [nth, List.getD]
    rw [List.getElem?_append_right (by simp)]
    simp
  have h2 : ∀ i, i < 4 → W.wat false (sigma ++ key) i = W.wat false sigma i := fun i hi => by
    simp only [W.wat]
    rw [h0 _ (by omega), h0 _ (by omega), h0 _ (by omega), h0 _ (by omega)]
  have h3 : ∀ i, W.wat false (sigma ++ key) (4 + i) = W.wat false key i := fun i => by
    simp only [W.wat]
    rw [show 4 * (4 + i) = 16 + 4 * i by omega, show 16 + 4 * i + 1 = 16 + (4 * i + 1) by omega, show 16 + 4 * i + 2 = 16 + (4 * i + 2) by omega, show 16 + 4 * i + 3 = 16 + (4 * i + 3) by omega, h1, h1, h1, h1]
  have e : ∀ f : Nat → BitVec 32, tab f 12 = [f 0, f 1, f 2, f 3] ++ tab (fun i => f (4 + i)) 8 := fun f => rfl
  rw [e, h2 0 (by omega), h2 1 (by omega), h2 2 (by omega), h2 3 (by omega), tab_congr _ _ 8 (fun i _ => h3 i)]
  congr 1

theorem stream_ev {SP : SProg} {n10 n19 n22 n27 n28 n29 n31 n32 : Nat} (h10 : SP.fn n10 = some (s10 n19)) (h19 : SP.fn n19 = some W.s17) (h28 : SP.fn n28 = some (s28 n10))
    (h22 : SP.fn n22 = some (s22 n27 n28 n29)) (h27 : SP.fn n27 = some (W.s12 n31 n32)) (h31 : SP.fn n31 = some W.s25) (h32 : SP.fn n32 = some W.s26) (h29 : SP.fn n29 = some W.s21)
    (k : Nat) (M : Mem) (key nonce : List UInt8) (c : BitVec 32) (hk : key.length = 32) (hn : nonce.length = 12) : callFn SP (k + 4) n22 [.str key, .str nonce, u32 c] M = some (.str (stream key nonce c), [], M) := by
  have b1 := fun k M => W.little_ev h27 h31 h32 k M (sigma ++ key) 12 (by simp [hk]) (by omega)
  have b2 := fun k M => W.little_ev h27 h31 h32 k M nonce 3 (by omega) (by omega)
  have hf : first key nonce c = tab (W.wat false (sigma ++ key)) 12 ++ [c] ++ tab (W.wat false nonce) 3 := by rw [sigma_words]; rfl
  obtain ⟨L1, e1⟩ : ∃ L, tab (W.wat false (sigma ++ key)) 12 = L := ⟨_, rfl⟩
  obtain ⟨L2, e2⟩ : ∃ L, tab (W.wat false nonce) 3 = L := ⟨_, rfl⟩
  have l1 : L1.length = 12 := by rw [← e1]; simp
  have l2 : L2.length = 3 := by rw [← e2]; simp
  rw [e1] at b1 hf
  rw [e2] at b2 hf
  simp only [sigma, List.cons_append, List.nil_append] at b1
  rw [call_fn (h22.trans rfl) (by simp)]
  have ht : (L2.map u32).take 3 = L2.map u32 := List.take_of_length_le (by simp [l2])
  have hw : L1.map u32 ++ u32 c :: L2.map u32 = (first key nonce c).map u32 := by rw [hf]; simp
  have hF := first_len key nonce c
  rw [stream]
  generalize first key nonce c = F at *
  have ht2 : (F.map u32).take 16 = F.map u32 := List.take_of_length_le (by simp [hF])
  have q0 := l22_0 h10 h19 h28 k M F hF 10 0 11 rfl (by omega)
  rw [show rr F 0 = F from rfl] at q0
  have hR : (rr F 10).length = 16 := by rw [rr_len, hF]
  have q3 := l22_3 (callFn SP (k + 3)) M F (rr F 10) hF 16 0 17 rfl (by omega)
  rw [adn_zero _ _ hR] at q3
  simp (disch := omega) [b1, b2, if_pos, hk, l1, l2, ht, hw, hF, ht2]
  rw [ev_loop 11 (by simp) q0 (by omega)]
  simp (disch := omega) []
  rw [ev_loop 17 (by simp) q3 (by omega)]
  have hs := sums_len (rr F 10) F
  generalize sums (rr F 10) F = Z at *
  simp (disch := omega) [hs]
  rw [W.fromlittle_ev h29]
  case hv => exact WS.top' (l := Z) rfl (by simp) (by omega) (by omega)
  case hN => omega
  simp (disch := omega) [W.tx_len, hs]

theorem shape_ev {SP : SProg} {n21 : Nat} (h21 : SP.fn n21 = some s21) (k : Nat) (M : Mem) (key nonce : List UInt8) : callFn SP (k + 1) n21 [.str key, .str nonce] M = some (.bool (decide (key.length = 32 ∧ nonce.length = 12)), [], M) := by
  rw [call_fn (h21.trans rfl) (by simp)]
  by_cases h1 : key.length = 32
  · have h2 : (key.length : Int) = 32 := by omega
    by_cases h3 : nonce.length = 12
    · have h4 : (nonce.length : Int) = 12 := by omega
      simp (disch := omega) [h1, h2, h3, h4]
    · have h4 : ¬ (nonce.length : Int) = 12 := by omega
      simp (disch := omega) [h1, h2, h3, h4]
  · have h2 : ¬ (key.length : Int) = 32 := by omega
    simp (disch := omega) [h1, h2]

section
variable {SP : SProg} {n10 n14 n16 n18 n19 n21 n22 n27 n28 n29 n31 n32 : Nat} (h10 : SP.fn n10 = some (s10 n19)) (h19 : SP.fn n19 = some W.s17) (h28 : SP.fn n28 = some (s28 n10))
    (h22 : SP.fn n22 = some (s22 n27 n28 n29)) (h27 : SP.fn n27 = some (W.s12 n31 n32)) (h31 : SP.fn n31 = some W.s25) (h32 : SP.fn n32 = some W.s26) (h29 : SP.fn n29 = some W.s21) (h21 : SP.fn n21 = some s21)

/-- What Block comes to: the bytes, the error. -/
def blockR (key nonce : List UInt8) (c : BitVec 32) : List UInt8 × Int := if key.length = 32 ∧ nonce.length = 12 then (stream key nonce c, 0) else ([], 7)

include h10 h19 h28 h22 h27 h31 h32 h29 h21
theorem block_ev (h14 : SP.fn n14 = some (s14 n21 n22)) (k : Nat) (M : Mem) (key nonce : List UInt8) (c : BitVec 32) :
    callFn SP (k + 5) n14 [.str key, .str nonce, u32 c] M = some (.tuple [.str (blockR key nonce c).1, .int .i64 (blockR key nonce c).2], [], M) := by
  have hs := fun k M => stream_ev h10 h19 h28 h22 h27 h31 h32 h29 k M key nonce c
  rw [call_fn (h14.trans rfl) (by simp)]
  unfold blockR
  by_cases h : key.length = 32 ∧ nonce.length = 12
  · simp (disch := omega) [shape_ev h21, h, hs, h.1, h.2]
  · simp (disch := omega) [shape_ev h21, h]

end

/-! ### a text combined -/
/-- A byte of the key stream. -/
def ksb (key nonce : List UInt8) (c : BitVec 32) (p : Nat) : UInt8 := nth (stream key nonce (c + BitVec.ofNat 32 (p / 64))) (p % 64)
def crypt (key nonce : List UInt8) (c : BitVec 32) (s : List UInt8) : List UInt8 := tab (fun p => nth s p ^^^ ksb key nonce c p) s.length
theorem crypt_len (key nonce : List UInt8) (c : BitVec 32) (s : List UInt8) : (crypt key nonce c s).length = s.length := by simp [crypt]
/-- The first blocks of a text, combined. -/
def cr (key nonce : List UInt8) (c : BitVec 32) : Nat → List UInt8 → List UInt8
  | 0, _ => []
  | i + 1, s => W.xorT (s.take 64) (stream key nonce c) ++ cr key nonce (c + 1#32) i (s.drop 64)

theorem cr_eq (key nonce : List UInt8) : ∀ (j : Nat) (c : BitVec 32) (s : List UInt8), s.length ≤ 64 * j → cr key nonce c j s = crypt key nonce c s
  | 0, c, s, h => by
    have : s = [] := List.eq_nil_of_length_eq_zero (by omega)
    subst this
    rfl
  | j + 1, c, s, h => by
    rw [cr, cr_eq key nonce j _ _ (by rw [List.length_drop]; omega)]
    have hl := stream_len key nonce c
    refine nth_ext (by rw [List.length_append, crypt_len, crypt_len, W.xorT_len, List.length_take, List.length_drop, hl]; omega) fun p hp => ?_
    rw [List.length_append, crypt_len, W.xorT_len, List.length_take, List.length_drop, hl] at hp
    have hx : (W.xorT (s.take 64) (stream key nonce c)).length = min 64 s.length := by rw [W.xorT_len, List.length_take, hl]; omega
    rw [crypt, crypt, nth_tab _ _ _ (by omega)]
    by_cases h1 : p < 64
    · have e1 : nth (W.xorT (s.take 64) (stream key nonce c) ++ tab (fun q => nth (s.drop 64) q ^^^ ksb key nonce (c + 1#32) q) (s.drop 64).length) p = nth (W.xorT (s.take 64) (stream key nonce c)) p := by
        simp only [nth, List.getD]
        rw [List.getElem?_append_left (by omega)]
      rw [e1, W.xorT, nth_range _ _ _ (by rw [List.length_take, hl]; omega)]
      have e2 : nth (s.take 64) p = nth s p := by simp [nth, List.getD, List.getElem?_take, h1]
      rw [e2, ksb, show p / 64 = 0 by omega, show p % 64 = p by omega]
      simp
    · have e1 : nth (W.xorT (s.take 64) (stream key nonce c) ++ tab (fun q => nth (s.drop 64) q ^^^ ksb key nonce (c + 1#32) q) (s.drop 64).length) p = nth (tab (fun q => nth (s.drop 64) q ^^^ ksb key nonce (c + 1#32) q) (s.drop 64).length) (p - 64) := by
        simp only [nth, List.getD]
        rw [List.getElem?_append_right (by omega), hx, show min 64 s.length = 64 by omega]
      rw [e1, nth_tab _ _ _ (by rw [List.length_drop]; omega)]
      have e2 : nth (s.drop 64) (p - 64) = nth s p := by
        simp only [nth, List.getD, List.getElem?_drop]
        rw [show 64 + (p - 64) = p by omega]
      have e3 : c + 1#32 + BitVec.ofNat 32 ((p - 64) / 64) = c + BitVec.ofNat 32 (p / 64) := by
        rw [show p / 64 = 1 + (p - 64) / 64 by omega, BitVec.add_assoc, BitVec.ofNat_add]
      rw [e2, ksb, ksb, e3, show (p - 64) % 64 = p % 64 by omega]

/-- So many blocks of the key stream. -/
def al (key nonce : List UInt8) (c : BitVec 32) : Nat → List UInt8
  | 0 => []
  | i + 1 => al key nonce c i ++ stream key nonce (c + BitVec.ofNat 32 i)
theorem al_len (key nonce : List UInt8) (c : BitVec 32) : ∀ i, (al key nonce c i).length = 64 * i
  | 0 => rfl
  | i + 1 => by rw [al, List.length_append, al_len key nonce c i, stream_len]; omega
theorem al_nth (key nonce : List UInt8) (c : BitVec 32) : ∀ i p, p < 64 * i → nth (al key nonce c i) p = ksb key nonce c p
  | 0, p, h => by omega
  | i + 1, p, h => by
    have hl := al_len key nonce c i
    rw [al]
    by_cases h1 : p < 64 * i
    · rw [← al_nth key nonce c i p h1]
      simp only [nth, List.getD]
      rw [List.getElem?_append_left (by omega)]
    · rw [ksb, show p / 64 = i by omega]
      simp only [nth, List.getD]
      rw [List.getElem?_append_right (by omega), hl, show p - 64 * i = p % 64 by omega]
theorem xor_al (key nonce : List UInt8) (c : BitVec 32) (i : Nat) (s : List UInt8) (h : s.length ≤ 64 * i) : W.xorT s (al key nonce c i) = crypt key nonce c s := by
  have hl := al_len key nonce c i
  rw [W.xorT, crypt, show min s.length (al key nonce c i).length = s.length by omega]
  exact tab_congr _ _ _ fun p hp => by rw [al_nth key nonce c i p (by omega)]

end Go.Det.C
