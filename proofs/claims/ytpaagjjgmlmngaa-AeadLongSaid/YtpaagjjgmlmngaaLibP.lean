/-
  LIB, poly: the code of package poly, and what each function comes to, whatever program they stand in.
-/
import Derived.Test.YtpaagjjgmlmngaaLibWW
import Derived.Test.YtpaagjjgmlmngaaLibPN
set_option maxRecDepth 100000
set_option maxHeartbeats 4000000
set_option linter.unusedSimpArgs false
set_option linter.unusedVariables false
namespace Go.Det.P
open Go.Det

-- 41 calls []
abbrev k41_0 : List Nat := [0, 2, 4]
abbrev a41_0 : List Nat := [0, 2]
abbrev e41_0 (v0 v2 v4 : AV) : Env := [v0, .dead, v2, .dead, v4, .dead, .dead, .dead, .dead, .dead, .dead, .dead, .dead, .dead, .dead, .dead, .dead, .dead, .dead, .dead, .dead, .dead, .dead, .dead, .dead, .dead, .dead, .dead, .dead, .dead, .dead, .dead, .dead, .dead, .dead, .dead, .dead, .dead, .dead, .dead, .dead, .dead, .dead, .dead, .dead, .dead, .dead, .dead, .dead, .dead, .dead, .dead, .dead, .dead, .dead, .dead, .dead, .dead, .dead]
abbrev x41_0 (v0 v2 : AV) : Env := [v0, .dead, v2, .dead, .dead, .dead, .dead, .dead, .dead, .dead, .dead, .dead, .dead, .dead, .dead, .dead, .dead, .dead, .dead, .dead, .dead, .dead, .dead, .dead, .dead, .dead, .dead, .dead, .dead, .dead, .dead, .dead, .dead, .dead, .dead, .dead, .dead, .dead, .dead, .dead, .dead, .dead, .dead, .dead, .dead, .dead, .dead, .dead, .dead, .dead, .dead, .dead, .dead, .dead, .dead, .dead, .dead, .dead, .dead]
def s41_b0 : SCode :=
  .seq (
    .region [
      ⟨some 5, none, [], .p (.bin .lss (.t 4) (.c (.int .i64 5)))⟩]) (
  .seq (
    .cond (.t 5) (
      .skip) (
      .exit 0)) (
  .seq (
    .block 1 (
      .seq (
        .region [
          ⟨some 6, none, [], .p (.mv (.t 4))⟩,
          ⟨some 3, none, [], .p (.mv (.t 6))⟩]) (
      .seq (
        .region [
          ⟨some 7, none, [], .p (.mv (.t 0))⟩,
          ⟨some 8, none, [], .p (.mv (.t 3))⟩,
          ⟨some 9, none, [], .p (.nilChk (.t 7))⟩,
          ⟨some 10, none, [], .p (.iaddrA 5 1 (.t 9) (.t 8))⟩,
          ⟨some 11, none, [], .r (.load1 (.t 10))⟩,
          ⟨some 12, none, [], .p (.mv (.t 2))⟩,
          ⟨some 13, none, [], .p (.bin .add (.t 11) (.t 12))⟩,
          ⟨some 14, none, [], .p (.nilChk (.t 7))⟩,
          ⟨some 15, none, [], .p (.iaddrA 5 1 (.t 14) (.t 8))⟩,
          ⟨none, none, [], .w (.store1 (.t 15) (.t 13))⟩]) (
      .seq (
        .region [
          ⟨some 16, none, [], .p (.mv (.t 0))⟩,
          ⟨some 17, none, [], .p (.mv (.t 3))⟩,
          ⟨some 18, none, [], .p (.nilChk (.t 16))⟩,
          ⟨some 19, none, [], .p (.iaddrA 5 1 (.t 18) (.t 17))⟩,
          ⟨some 20, none, [], .r (.load1 (.t 19))⟩,
          ⟨some 21, none, [], .p (.bin .shr (.t 20) (.c (u64 26#64)))⟩,
          ⟨some 2, none, [], .p (.mv (.t 21))⟩]) (
      .region [
        ⟨some 22, none, [], .p (.mv (.t 0))⟩,
        ⟨some 23, none, [], .p (.mv (.t 3))⟩,
        ⟨some 24, none, [], .p (.nilChk (.t 22))⟩,
        ⟨some 25, none, [], .p (.iaddrA 5 1 (.t 24) (.t 23))⟩,
        ⟨some 26, none, [], .r (.load1 (.t 25))⟩,
        ⟨some 27, none, [], .p (.bin .and (.t 26) (.c (u64 67108863#64)))⟩,
        ⟨some 28, none, [], .p (.nilChk (.t 22))⟩,
        ⟨some 29, none, [], .p (.iaddrA 5 1 (.t 28) (.t 23))⟩,
        ⟨none, none, [], .w (.store1 (.t 29) (.t 27))⟩]))))) (
  .region [
    ⟨some 30, none, [], .p (.bin .add (.t 4) (.c (.int .i64 1)))⟩,
    ⟨some 4, none, [], .p (.mv (.t 30))⟩])))

def s41 : SFunc := ⟨
  .seq (
    .region [
      ⟨some 2, none, [], .p (.mv (.c (u64 0#64)))⟩]) (
  .seq (
    .seq (
      .region [
        ⟨some 4, none, [], .p (.mv (.c (.int .i64 0)))⟩]) (
    .block 0 (
      .loop k41_0 a41_0 s41_b0))) (
  .seq (
    .region [
      ⟨some 31, none, [], .p (.mv (.t 0))⟩,
      ⟨some 32, none, [], .p (.nilChk (.t 31))⟩,
      ⟨some 33, none, [], .p (.iaddrA 5 1 (.t 32) (.c (.int .i64 0)))⟩,
      ⟨some 34, none, [], .r (.load1 (.t 33))⟩,
      ⟨some 35, none, [], .p (.mv (.t 2))⟩,
      ⟨some 36, none, [], .p (.bin .mul (.t 35) (.c (u64 5#64)))⟩,
      ⟨some 37, none, [], .p (.bin .add (.t 34) (.t 36))⟩,
      ⟨some 38, none, [], .p (.nilChk (.t 31))⟩,
      ⟨some 39, none, [], .p (.iaddrA 5 1 (.t 38) (.c (.int .i64 0)))⟩,
      ⟨none, none, [], .w (.store1 (.t 39) (.t 37))⟩]) (
  .seq (
    .region [
      ⟨some 40, none, [], .p (.mv (.t 0))⟩,
      ⟨some 41, none, [], .p (.nilChk (.t 40))⟩,
      ⟨some 42, none, [], .p (.iaddrA 5 1 (.t 41) (.c (.int .i64 1)))⟩,
      ⟨some 43, none, [], .r (.load1 (.t 42))⟩,
      ⟨some 44, none, [], .p (.mv (.t 0))⟩,
      ⟨some 45, none, [], .p (.nilChk (.t 44))⟩,
      ⟨some 46, none, [], .p (.iaddrA 5 1 (.t 45) (.c (.int .i64 0)))⟩,
      ⟨some 47, none, [], .r (.load1 (.t 46))⟩,
      ⟨some 48, none, [], .p (.bin .shr (.t 47) (.c (u64 26#64)))⟩,
      ⟨some 49, none, [], .p (.bin .add (.t 43) (.t 48))⟩,
      ⟨some 50, none, [], .p (.nilChk (.t 40))⟩,
      ⟨some 51, none, [], .p (.iaddrA 5 1 (.t 50) (.c (.int .i64 1)))⟩,
      ⟨none, none, [], .w (.store1 (.t 51) (.t 49))⟩]) (
  .region [
    ⟨some 52, none, [], .p (.mv (.t 0))⟩,
    ⟨some 53, none, [], .p (.nilChk (.t 52))⟩,
    ⟨some 54, none, [], .p (.iaddrA 5 1 (.t 53) (.c (.int .i64 0)))⟩,
    ⟨some 55, none, [], .r (.load1 (.t 54))⟩,
    ⟨some 56, none, [], .p (.bin .and (.t 55) (.c (u64 67108863#64)))⟩,
    ⟨some 57, none, [], .p (.nilChk (.t 52))⟩,
    ⟨some 58, none, [], .p (.iaddrA 5 1 (.t 57) (.c (.int .i64 0)))⟩,
    ⟨none, none, [], .w (.store1 (.t 58) (.t 56))⟩])))),
  59, []⟩

-- 30 calls [41]
abbrev k30_1 : List Nat := [0, 3, 4, 5, 6, 9, 10, 16, 17]
abbrev a30_1 : List Nat := [0, 3, 4, 9, 10]
abbrev e30_1 (v0 v3 v4 v5 v6 v9 v10 v16 v17 : AV) : Env := [v0, .dead, .dead, v3, v4, v5, v6, .dead, .dead, v9, v10, .dead, .dead, .dead, .dead, .dead, v16, v17, .dead, .dead, .dead, .dead, .dead, .dead, .dead, .dead, .dead, .dead, .dead, .dead, .dead, .dead, .dead, .dead, .dead, .dead, .dead, .dead, .dead, .dead, .dead, .dead, .dead, .dead, .dead, .dead, .dead, .dead, .dead, .dead, .dead, .dead, .dead]
abbrev x30_1 (v0 v3 v4 v9 v10 : AV) : Env := [v0, .dead, .dead, v3, v4, .dead, .dead, .dead, .dead, v9, v10, .dead, .dead, .dead, .dead, .dead, .dead, .dead, .dead, .dead, .dead, .dead, .dead, .dead, .dead, .dead, .dead, .dead, .dead, .dead, .dead, .dead, .dead, .dead, .dead, .dead, .dead, .dead, .dead, .dead, .dead, .dead, .dead, .dead, .dead, .dead, .dead, .dead, .dead, .dead, .dead, .dead, .dead]
def s30_b1 : SCode :=
  .seq (
    .region [
      ⟨some 18, none, [], .p (.bin .lss (.t 17) (.c (.int .i64 5)))⟩]) (
  .seq (
    .cond (.t 18) (
      .skip) (
      .exit 2)) (
  .seq (
    .block 3 (
      .seq (
        .region [
          ⟨some 19, none, [], .p (.mv (.t 17))⟩,
          ⟨some 20, none, [], .p (.idxA 5 (.t 16) (.t 17))⟩,
          ⟨some 7, none, [], .p (.mv (.t 19))⟩,
          ⟨some 8, none, [], .p (.mv (.t 20))⟩]) (
      .seq (
        .region [
          ⟨some 21, none, [], .p (.mv (.t 5))⟩,
          ⟨some 22, none, [], .p (.mv (.t 7))⟩,
          ⟨some 23, none, [], .p (.bin .add (.t 21) (.t 22))⟩,
          ⟨some 24, none, [], .p (.bin .lss (.t 23) (.c (.int .i64 5)))⟩]) (
      .cond (.t 24) (
        .region [
          ⟨some 25, none, [], .p (.mv (.t 5))⟩,
          ⟨some 26, none, [], .p (.mv (.t 7))⟩,
          ⟨some 27, none, [], .p (.bin .add (.t 25) (.t 26))⟩,
          ⟨some 28, none, [], .p (.iaddrA 5 1 (.t 4) (.t 27))⟩,
          ⟨some 29, none, [], .r (.load1 (.t 28))⟩,
          ⟨some 30, none, [], .p (.mv (.t 6))⟩,
          ⟨some 31, none, [], .p (.mv (.t 8))⟩,
          ⟨some 32, none, [], .p (.bin .mul (.t 30) (.t 31))⟩,
          ⟨some 33, none, [], .p (.bin .add (.t 29) (.t 32))⟩,
          ⟨some 34, none, [], .p (.iaddrA 5 1 (.t 4) (.t 27))⟩,
          ⟨none, none, [], .w (.store1 (.t 34) (.t 33))⟩]) (
        .region [
          ⟨some 35, none, [], .p (.mv (.t 5))⟩,
          ⟨some 36, none, [], .p (.mv (.t 7))⟩,
          ⟨some 37, none, [], .p (.bin .add (.t 35) (.t 36))⟩,
          ⟨some 38, none, [], .p (.bin .sub (.t 37) (.c (.int .i64 5)))⟩,
          ⟨some 39, none, [], .p (.iaddrA 5 1 (.t 4) (.t 38))⟩,
          ⟨some 40, none, [], .r (.load1 (.t 39))⟩,
          ⟨some 41, none, [], .p (.mv (.t 6))⟩,
          ⟨some 42, none, [], .p (.mv (.t 8))⟩,
          ⟨some 43, none, [], .p (.bin .mul (.t 41) (.t 42))⟩,
          ⟨some 44, none, [], .p (.bin .mul (.t 43) (.c (u64 5#64)))⟩,
          ⟨some 45, none, [], .p (.bin .add (.t 40) (.t 44))⟩,
          ⟨some 46, none, [], .p (.iaddrA 5 1 (.t 4) (.t 38))⟩,
          ⟨none, none, [], .w (.store1 (.t 46) (.t 45))⟩]))))) (
  .region [
    ⟨some 47, none, [], .p (.bin .add (.t 17) (.c (.int .i64 1)))⟩,
    ⟨some 17, none, [], .p (.mv (.t 47))⟩])))

abbrev k30_0 : List Nat := [0, 3, 4, 9, 10]
abbrev a30_0 : List Nat := [0, 4]
abbrev e30_0 (v0 v3 v4 v9 v10 : AV) : Env := [v0, .dead, .dead, v3, v4, .dead, .dead, .dead, .dead, v9, v10, .dead, .dead, .dead, .dead, .dead, .dead, .dead, .dead, .dead, .dead, .dead, .dead, .dead, .dead, .dead, .dead, .dead, .dead, .dead, .dead, .dead, .dead, .dead, .dead, .dead, .dead, .dead, .dead, .dead, .dead, .dead, .dead, .dead, .dead, .dead, .dead, .dead, .dead, .dead, .dead, .dead, .dead]
abbrev x30_0 (v0 v4 : AV) : Env := [v0, .dead, .dead, .dead, v4, .dead, .dead, .dead, .dead, .dead, .dead, .dead, .dead, .dead, .dead, .dead, .dead, .dead, .dead, .dead, .dead, .dead, .dead, .dead, .dead, .dead, .dead, .dead, .dead, .dead, .dead, .dead, .dead, .dead, .dead, .dead, .dead, .dead, .dead, .dead, .dead, .dead, .dead, .dead, .dead, .dead, .dead, .dead, .dead, .dead, .dead, .dead, .dead]
def s30_b0 : SCode :=
  .seq (
    .region [
      ⟨some 11, none, [], .p (.bin .lss (.t 10) (.c (.int .i64 5)))⟩]) (
  .seq (
    .cond (.t 11) (
      .skip) (
      .exit 0)) (
  .seq (
    .block 1 (
      .seq (
        .region [
          ⟨some 12, none, [], .p (.mv (.t 10))⟩,
          ⟨some 13, none, [], .p (.nilChk (.t 9))⟩,
          ⟨some 14, none, [], .p (.iaddrA 5 1 (.t 13) (.t 10))⟩,
          ⟨some 15, none, [], .r (.load1 (.t 14))⟩,
          ⟨some 5, none, [], .p (.mv (.t 12))⟩,
          ⟨some 6, none, [], .p (.mv (.t 15))⟩]) (
      .seq (
        .region [
          ⟨some 16, none, [], .r (.loadN 5 (.t 3))⟩,
          ⟨some 17, none, [], .p (.mv (.c (.int .i64 0)))⟩]) (
      .block 2 (
        .loop k30_1 a30_1 s30_b1))))) (
  .region [
    ⟨some 48, none, [], .p (.bin .add (.t 10) (.c (.int .i64 1)))⟩,
    ⟨some 10, none, [], .p (.mv (.t 48))⟩])))

def s30 (n41 : Nat) : SFunc := ⟨
  .seq (
    .region [
      ⟨some 3, none, [], .a 0 (.box (.t 1))⟩]) (
  .seq (
    .region [
      ⟨some 4, none, [], .a 4000 (.alloc [u64 0#64, u64 0#64, u64 0#64, u64 0#64, u64 0#64])⟩]) (
  .seq (
    .seq (
      .region [
        ⟨some 9, none, [], .p (.mv (.t 0))⟩,
        ⟨some 10, none, [], .p (.mv (.c (.int .i64 0)))⟩]) (
    .block 0 (
      .loop k30_0 a30_0 s30_b0))) (
  .seq (
    .region [
      ⟨some 49, none, [], .call 52000 4 false (.f n41) [.t 4]⟩]) (
  .region [
    ⟨some 50, none, [], .p (.mv (.t 0))⟩,
    ⟨some 51, none, [], .r (.loadN 5 (.t 4))⟩,
    ⟨some 52, none, [], .p (.nilChk (.t 50))⟩,
    ⟨none, none, [], .w (.storeN 5 (.t 52) (.t 51))⟩])))),
  53, []⟩

-- 31 calls [41]
abbrev k31_0 : List Nat := [0, 2, 15]
abbrev a31_0 : List Nat := [0, 2]
abbrev e31_0 (v0 v2 v15 : AV) : Env := [v0, .dead, v2, .dead, .dead, .dead, .dead, .dead, .dead, .dead, .dead, .dead, .dead, .dead, .dead, v15, .dead, .dead, .dead, .dead, .dead, .dead, .dead, .dead, .dead, .dead, .dead, .dead, .dead, .dead, .dead, .dead, .dead, .dead, .dead, .dead, .dead, .dead, .dead, .dead, .dead, .dead, .dead, .dead, .dead]
abbrev x31_0 (v0 v2 : AV) : Env := [v0, .dead, v2, .dead, .dead, .dead, .dead, .dead, .dead, .dead, .dead, .dead, .dead, .dead, .dead, .dead, .dead, .dead, .dead, .dead, .dead, .dead, .dead, .dead, .dead, .dead, .dead, .dead, .dead, .dead, .dead, .dead, .dead, .dead, .dead, .dead, .dead, .dead, .dead, .dead, .dead, .dead, .dead, .dead, .dead]
def s31_b0 : SCode :=
  .seq (
    .region [
      ⟨some 16, none, [], .p (.bin .lss (.t 15) (.c (.int .i64 4)))⟩]) (
  .seq (
    .cond (.t 16) (
      .skip) (
      .exit 0)) (
  .seq (
    .block 1 (
      .seq (
        .region [
          ⟨some 17, none, [], .p (.mv (.t 15))⟩,
          ⟨some 3, none, [], .p (.mv (.t 17))⟩]) (
      .seq (
        .region [
          ⟨some 18, none, [], .p (.mv (.t 3))⟩,
          ⟨some 19, none, [], .p (.bin .add (.t 18) (.c (.int .i64 1)))⟩,
          ⟨some 20, none, [], .p (.iaddrA 5 1 (.t 2) (.t 19))⟩,
          ⟨some 21, none, [], .r (.load1 (.t 20))⟩,
          ⟨some 22, none, [], .p (.mv (.t 3))⟩,
          ⟨some 23, none, [], .p (.iaddrA 5 1 (.t 2) (.t 22))⟩,
          ⟨some 24, none, [], .r (.load1 (.t 23))⟩,
          ⟨some 25, none, [], .p (.bin .shr (.t 24) (.c (u64 26#64)))⟩,
          ⟨some 26, none, [], .p (.bin .add (.t 21) (.t 25))⟩,
          ⟨some 27, none, [], .p (.iaddrA 5 1 (.t 2) (.t 19))⟩,
          ⟨none, none, [], .w (.store1 (.t 27) (.t 26))⟩]) (
      .region [
        ⟨some 28, none, [], .p (.mv (.t 3))⟩,
        ⟨some 29, none, [], .p (.iaddrA 5 1 (.t 2) (.t 28))⟩,
        ⟨some 30, none, [], .r (.load1 (.t 29))⟩,
        ⟨some 31, none, [], .p (.bin .and (.t 30) (.c (u64 67108863#64)))⟩,
        ⟨some 32, none, [], .p (.iaddrA 5 1 (.t 2) (.t 28))⟩,
        ⟨none, none, [], .w (.store1 (.t 32) (.t 31))⟩])))) (
  .region [
    ⟨some 33, none, [], .p (.bin .add (.t 15) (.c (.int .i64 1)))⟩,
    ⟨some 15, none, [], .p (.mv (.t 33))⟩])))

def s31 (n41 : Nat) : SFunc := ⟨
  .seq (
    .region [
      ⟨some 4, none, [], .p (.mv (.t 0))⟩,
      ⟨some 5, none, [], .call 4 4 false (.f n41) [.t 4]⟩]) (
  .seq (
    .region [
      ⟨some 6, none, [], .p (.mv (.t 0))⟩,
      ⟨some 7, none, [], .call 4004 4 false (.f n41) [.t 6]⟩]) (
  .seq (
    .region [
      ⟨some 8, none, [], .p (.mv (.t 0))⟩,
      ⟨some 9, none, [], .p (.nilChk (.t 8))⟩,
      ⟨some 10, none, [], .r (.loadN 5 (.t 9))⟩,
      ⟨some 2, none, [], .a 8012 (.alloc [u64 0#64, u64 0#64, u64 0#64, u64 0#64, u64 0#64])⟩,
      ⟨none, none, [], .w (.storeN 5 (.t 2) (.t 10))⟩]) (
  .seq (
    .region [
      ⟨some 11, none, [], .p (.iaddrA 5 1 (.t 2) (.c (.int .i64 0)))⟩,
      ⟨some 12, none, [], .r (.load1 (.t 11))⟩,
      ⟨some 13, none, [], .p (.bin .add (.t 12) (.c (u64 5#64)))⟩,
      ⟨some 14, none, [], .p (.iaddrA 5 1 (.t 2) (.c (.int .i64 0)))⟩,
      ⟨none, none, [], .w (.store1 (.t 14) (.t 13))⟩]) (
  .seq (
    .seq (
      .region [
        ⟨some 15, none, [], .p (.mv (.c (.int .i64 0)))⟩]) (
    .block 0 (
      .loop k31_0 a31_0 s31_b0))) (
  .seq (
    .region [
      ⟨some 34, none, [], .p (.iaddrA 5 1 (.t 2) (.c (.int .i64 4)))⟩,
      ⟨some 35, none, [], .r (.load1 (.t 34))⟩,
      ⟨some 36, none, [], .p (.bin .shr (.t 35) (.c (u64 26#64)))⟩,
      ⟨some 37, none, [], .p (.bin .neq (.t 36) (.c (u64 0#64)))⟩]) (
  .cond (.t 37) (
    .seq (
      .region [
        ⟨some 38, none, [], .p (.iaddrA 5 1 (.t 2) (.c (.int .i64 4)))⟩,
        ⟨some 39, none, [], .r (.load1 (.t 38))⟩,
        ⟨some 40, none, [], .p (.bin .and (.t 39) (.c (u64 67108863#64)))⟩,
        ⟨some 41, none, [], .p (.iaddrA 5 1 (.t 2) (.c (.int .i64 4)))⟩,
        ⟨none, none, [], .w (.store1 (.t 41) (.t 40))⟩]) (
    .region [
      ⟨some 42, none, [], .p (.mv (.t 0))⟩,
      ⟨some 43, none, [], .r (.loadN 5 (.t 2))⟩,
      ⟨some 44, none, [], .p (.nilChk (.t 42))⟩,
      ⟨none, none, [], .w (.storeN 5 (.t 44) (.t 43))⟩])) (
    .skip))))))),
  45, []⟩

-- 29 calls [40]
abbrev k29_0 : List Nat := [1, 4, 5, 7, 14]
abbrev a29_0 : List Nat := [1, 4, 7]
abbrev e29_0 (v1 v4 v5 v7 v14 : AV) : Env := [.dead, v1, .dead, .dead, v4, v5, .dead, v7, .dead, .dead, .dead, .dead, .dead, .dead, v14, .dead, .dead, .dead, .dead, .dead, .dead, .dead, .dead, .dead, .dead, .dead, .dead, .dead, .dead, .dead, .dead, .dead, .dead, .dead, .dead, .dead, .dead, .dead, .dead, .dead, .dead, .dead, .dead, .dead, .dead, .dead, .dead, .dead, .dead, .dead, .dead, .dead, .dead, .dead, .dead, .dead, .dead, .dead, .dead]
abbrev x29_0 (v1 v4 v7 : AV) : Env := [.dead, v1, .dead, .dead, v4, .dead, .dead, v7, .dead, .dead, .dead, .dead, .dead, .dead, .dead, .dead, .dead, .dead, .dead, .dead, .dead, .dead, .dead, .dead, .dead, .dead, .dead, .dead, .dead, .dead, .dead, .dead, .dead, .dead, .dead, .dead, .dead, .dead, .dead, .dead, .dead, .dead, .dead, .dead, .dead, .dead, .dead, .dead, .dead, .dead, .dead, .dead, .dead, .dead, .dead, .dead, .dead, .dead, .dead]
def s29_b0 : SCode :=
  .seq (
    .region [
      ⟨some 15, none, [], .p (.bin .lss (.t 14) (.c (.int .i64 4)))⟩]) (
  .seq (
    .cond (.t 15) (
      .skip) (
      .exit 0)) (
  .seq (
    .block 1 (
      .seq (
        .region [
          ⟨some 16, none, [], .p (.mv (.t 14))⟩,
          ⟨some 8, none, [], .p (.mv (.t 16))⟩]) (
      .region [
        ⟨some 17, none, [], .p (.mv (.t 8))⟩,
        ⟨some 18, none, [], .p (.mv (.t 5))⟩,
        ⟨some 19, none, [], .p (.mv (.t 8))⟩,
        ⟨some 20, none, [], .p (.iaddrS 1 (.t 18) (.t 19))⟩,
        ⟨some 21, none, [], .r (.load1 (.t 20))⟩,
        ⟨some 22, none, [], .p (.conv .u64 (.t 21))⟩,
        ⟨some 23, none, [], .p (.iaddrA 4 1 (.t 7) (.t 17))⟩,
        ⟨none, none, [], .w (.store1 (.t 23) (.t 22))⟩]))) (
  .region [
    ⟨some 24, none, [], .p (.bin .add (.t 14) (.c (.int .i64 1)))⟩,
    ⟨some 14, none, [], .p (.mv (.t 24))⟩])))

def s29 (n40 : Nat) : SFunc := ⟨
  .seq (
    .region [
      ⟨some 4, none, [], .a 0 (.alloc [u64 0#64, u64 0#64, u64 0#64, u64 0#64, u64 0#64])⟩]) (
  .seq (
    .region [
      ⟨some 10, none, [], .p (.mv (.t 0))⟩,
      ⟨some 11, none, [], .call 4004 4 true (.f n40) [.t 10]⟩,
      ⟨some 9, none, [], .p (.mv (.t 11))⟩,
      ⟨some 12, none, [], .p (.extract (.t 9) 0)⟩,
      ⟨some 13, none, [], .p (.extract (.t 9) 1)⟩,
      ⟨some 5, none, [], .p (.mv (.t 12))⟩,
      ⟨some 6, none, [], .p (.mv (.t 13))⟩]) (
  .seq (
    .region [
      ⟨some 7, none, [], .a 8000 (.alloc [u64 0#64, u64 0#64, u64 0#64, u64 0#64])⟩]) (
  .seq (
    .seq (
      .region [
        ⟨some 14, none, [], .p (.mv (.c (.int .i64 0)))⟩]) (
    .block 0 (
      .loop k29_0 a29_0 s29_b0))) (
  .seq (
    .region [
      ⟨some 25, none, [], .p (.iaddrA 4 1 (.t 7) (.c (.int .i64 0)))⟩,
      ⟨some 26, none, [], .r (.load1 (.t 25))⟩,
      ⟨some 27, none, [], .p (.bin .and (.t 26) (.c (u64 67108863#64)))⟩,
      ⟨some 28, none, [], .p (.iaddrA 4 1 (.t 7) (.c (.int .i64 0)))⟩,
      ⟨some 29, none, [], .r (.load1 (.t 28))⟩,
      ⟨some 30, none, [], .p (.bin .shr (.t 29) (.c (u64 26#64)))⟩,
      ⟨some 31, none, [], .p (.iaddrA 4 1 (.t 7) (.c (.int .i64 1)))⟩,
      ⟨some 32, none, [], .r (.load1 (.t 31))⟩,
      ⟨some 33, none, [], .p (.bin .shl (.t 32) (.c (u64 6#64)))⟩,
      ⟨some 34, none, [], .p (.bin .or (.t 30) (.t 33))⟩,
      ⟨some 35, none, [], .p (.bin .and (.t 34) (.c (u64 67108863#64)))⟩,
      ⟨some 36, none, [], .p (.iaddrA 4 1 (.t 7) (.c (.int .i64 1)))⟩,
      ⟨some 37, none, [], .r (.load1 (.t 36))⟩,
      ⟨some 38, none, [], .p (.bin .shr (.t 37) (.c (u64 20#64)))⟩,
      ⟨some 39, none, [], .p (.iaddrA 4 1 (.t 7) (.c (.int .i64 2)))⟩,
      ⟨some 40, none, [], .r (.load1 (.t 39))⟩,
      ⟨some 41, none, [], .p (.bin .shl (.t 40) (.c (u64 12#64)))⟩,
      ⟨some 42, none, [], .p (.bin .or (.t 38) (.t 41))⟩,
      ⟨some 43, none, [], .p (.bin .and (.t 42) (.c (u64 67108863#64)))⟩,
      ⟨some 44, none, [], .p (.iaddrA 4 1 (.t 7) (.c (.int .i64 2)))⟩,
      ⟨some 45, none, [], .r (.load1 (.t 44))⟩,
      ⟨some 46, none, [], .p (.bin .shr (.t 45) (.c (u64 14#64)))⟩,
      ⟨some 47, none, [], .p (.iaddrA 4 1 (.t 7) (.c (.int .i64 3)))⟩,
      ⟨some 48, none, [], .r (.load1 (.t 47))⟩,
      ⟨some 49, none, [], .p (.bin .shl (.t 48) (.c (u64 18#64)))⟩,
      ⟨some 50, none, [], .p (.bin .or (.t 46) (.t 49))⟩,
      ⟨some 51, none, [], .p (.bin .and (.t 50) (.c (u64 67108863#64)))⟩,
      ⟨some 52, none, [], .p (.iaddrA 4 1 (.t 7) (.c (.int .i64 3)))⟩,
      ⟨some 53, none, [], .r (.load1 (.t 52))⟩,
      ⟨some 54, none, [], .p (.bin .shr (.t 53) (.c (u64 8#64)))⟩,
      ⟨some 55, none, [], .p (.mv (.t 1))⟩,
      ⟨some 56, none, [], .p (.bin .shl (.t 55) (.c (u64 24#64)))⟩,
      ⟨some 57, none, [], .p (.bin .or (.t 54) (.t 56))⟩,
      ⟨some 58, none, [], .p (.build [u64 0#64, u64 0#64, u64 0#64, u64 0#64, u64 0#64] [(0, 1, .t 27), (1, 1, .t 35), (2, 1, .t 43), (3, 1, .t 51), (4, 1, .t 57)])⟩,
      ⟨none, none, [], .w (.storeN 5 (.t 4) (.t 58))⟩]) (
  .ret))))),
  59, [Sum.inr (4, 5, true)]⟩

-- 32 calls [40, 42]
abbrev k32_0 : List Nat := [5, 7, 8, 9, 45]
abbrev a32_0 : List Nat := [8]
abbrev e32_0 (v5 v7 v8 v9 v45 : AV) : Env := [.dead, .dead, .dead, .dead, .dead, v5, .dead, v7, v8, v9, .dead, .dead, .dead, .dead, .dead, .dead, .dead, .dead, .dead, .dead, .dead, .dead, .dead, .dead, .dead, .dead, .dead, .dead, .dead, .dead, .dead, .dead, .dead, .dead, .dead, .dead, .dead, .dead, .dead, .dead, .dead, .dead, .dead, .dead, .dead, v45, .dead, .dead, .dead, .dead, .dead, .dead, .dead, .dead, .dead, .dead, .dead, .dead, .dead, .dead, .dead, .dead, .dead, .dead, .dead, .dead, .dead, .dead, .dead, .dead]
abbrev x32_0 (v8 : AV) : Env := [.dead, .dead, .dead, .dead, .dead, .dead, .dead, .dead, v8, .dead, .dead, .dead, .dead, .dead, .dead, .dead, .dead, .dead, .dead, .dead, .dead, .dead, .dead, .dead, .dead, .dead, .dead, .dead, .dead, .dead, .dead, .dead, .dead, .dead, .dead, .dead, .dead, .dead, .dead, .dead, .dead, .dead, .dead, .dead, .dead, .dead, .dead, .dead, .dead, .dead, .dead, .dead, .dead, .dead, .dead, .dead, .dead, .dead, .dead, .dead, .dead, .dead, .dead, .dead, .dead, .dead, .dead, .dead, .dead, .dead]
def s32_b0 : SCode :=
  .seq (
    .region [
      ⟨some 46, none, [], .p (.bin .lss (.t 45) (.c (.int .i64 4)))⟩]) (
  .seq (
    .cond (.t 46) (
      .skip) (
      .exit 0)) (
  .seq (
    .block 1 (
      .seq (
        .region [
          ⟨some 47, none, [], .p (.mv (.t 45))⟩,
          ⟨some 10, none, [], .p (.mv (.t 47))⟩]) (
      .seq (
        .region [
          ⟨some 48, none, [], .p (.mv (.t 9))⟩,
          ⟨some 49, none, [], .p (.mv (.t 10))⟩,
          ⟨some 50, none, [], .p (.iaddrA 4 1 (.t 7) (.t 49))⟩,
          ⟨some 51, none, [], .r (.load1 (.t 50))⟩,
          ⟨some 52, none, [], .p (.bin .and (.t 51) (.c (u64 4294967295#64)))⟩,
          ⟨some 53, none, [], .p (.mv (.t 5))⟩,
          ⟨some 54, none, [], .p (.mv (.t 10))⟩,
          ⟨some 55, none, [], .p (.iaddrS 1 (.t 53) (.t 54))⟩,
          ⟨some 56, none, [], .r (.load1 (.t 55))⟩,
          ⟨some 57, none, [], .p (.conv .u64 (.t 56))⟩,
          ⟨some 58, none, [], .p (.bin .add (.t 52) (.t 57))⟩,
          ⟨some 59, none, [], .p (.bin .add (.t 48) (.t 58))⟩,
          ⟨some 9, none, [], .p (.mv (.t 59))⟩]) (
      .seq (
        .region [
          ⟨some 60, none, [], .p (.mv (.t 8))⟩,
          ⟨some 61, none, [], .p (.mv (.t 10))⟩,
          ⟨some 62, none, [], .p (.mv (.t 9))⟩,
          ⟨some 63, none, [], .p (.conv .u32 (.t 62))⟩,
          ⟨some 64, none, [], .p (.iaddrS 1 (.t 60) (.t 61))⟩,
          ⟨none, none, [], .w (.store1 (.t 64) (.t 63))⟩]) (
      .region [
        ⟨some 65, none, [], .p (.mv (.t 9))⟩,
        ⟨some 66, none, [], .p (.bin .shr (.t 65) (.c (u64 32#64)))⟩,
        ⟨some 9, none, [], .p (.mv (.t 66))⟩]))))) (
  .region [
    ⟨some 67, none, [], .p (.bin .add (.t 45) (.c (.int .i64 1)))⟩,
    ⟨some 45, none, [], .p (.mv (.t 67))⟩])))

def s32 (n40 n42 : Nat) : SFunc := ⟨
  .seq (
    .region [
      ⟨some 2, none, [], .a 0 (.box (.t 0))⟩,
      ⟨some 4, none, [], .p (.mv (.c (.str [])))⟩]) (
  .seq (
    .region [
      ⟨some 12, none, [], .p (.mv (.t 1))⟩,
      ⟨some 13, none, [], .call 4004 4 true (.f n40) [.t 12]⟩,
      ⟨some 11, none, [], .p (.mv (.t 13))⟩,
      ⟨some 14, none, [], .p (.extract (.t 11) 0)⟩,
      ⟨some 15, none, [], .p (.extract (.t 11) 1)⟩,
      ⟨some 5, none, [], .p (.mv (.t 14))⟩,
      ⟨some 6, none, [], .p (.mv (.t 15))⟩]) (
  .seq (
    .region [
      ⟨some 16, none, [], .p (.iaddrA 5 1 (.t 2) (.c (.int .i64 0)))⟩,
      ⟨some 17, none, [], .r (.load1 (.t 16))⟩,
      ⟨some 18, none, [], .p (.iaddrA 5 1 (.t 2) (.c (.int .i64 1)))⟩,
      ⟨some 19, none, [], .r (.load1 (.t 18))⟩,
      ⟨some 20, none, [], .p (.bin .shl (.t 19) (.c (u64 26#64)))⟩,
      ⟨some 21, none, [], .p (.bin .or (.t 17) (.t 20))⟩,
      ⟨some 22, none, [], .p (.iaddrA 5 1 (.t 2) (.c (.int .i64 1)))⟩,
      ⟨some 23, none, [], .r (.load1 (.t 22))⟩,
      ⟨some 24, none, [], .p (.bin .shr (.t 23) (.c (u64 6#64)))⟩,
      ⟨some 25, none, [], .p (.iaddrA 5 1 (.t 2) (.c (.int .i64 2)))⟩,
      ⟨some 26, none, [], .r (.load1 (.t 25))⟩,
      ⟨some 27, none, [], .p (.bin .shl (.t 26) (.c (u64 20#64)))⟩,
      ⟨some 28, none, [], .p (.bin .or (.t 24) (.t 27))⟩,
      ⟨some 29, none, [], .p (.iaddrA 5 1 (.t 2) (.c (.int .i64 2)))⟩,
      ⟨some 30, none, [], .r (.load1 (.t 29))⟩,
      ⟨some 31, none, [], .p (.bin .shr (.t 30) (.c (u64 12#64)))⟩,
      ⟨some 32, none, [], .p (.iaddrA 5 1 (.t 2) (.c (.int .i64 3)))⟩,
      ⟨some 33, none, [], .r (.load1 (.t 32))⟩,
      ⟨some 34, none, [], .p (.bin .shl (.t 33) (.c (u64 14#64)))⟩,
      ⟨some 35, none, [], .p (.bin .or (.t 31) (.t 34))⟩,
      ⟨some 36, none, [], .p (.iaddrA 5 1 (.t 2) (.c (.int .i64 3)))⟩,
      ⟨some 37, none, [], .r (.load1 (.t 36))⟩,
      ⟨some 38, none, [], .p (.bin .shr (.t 37) (.c (u64 18#64)))⟩,
      ⟨some 39, none, [], .p (.iaddrA 5 1 (.t 2) (.c (.int .i64 4)))⟩,
      ⟨some 40, none, [], .r (.load1 (.t 39))⟩,
      ⟨some 41, none, [], .p (.bin .shl (.t 40) (.c (u64 8#64)))⟩,
      ⟨some 42, none, [], .p (.bin .or (.t 38) (.t 41))⟩,
      ⟨some 43, none, [], .p (.build [u64 0#64, u64 0#64, u64 0#64, u64 0#64] [(0, 1, .t 21), (1, 1, .t 28), (2, 1, .t 35), (3, 1, .t 42)])⟩,
      ⟨some 7, none, [], .a 8112 (.alloc [u64 0#64, u64 0#64, u64 0#64, u64 0#64])⟩,
      ⟨none, none, [], .w (.storeN 4 (.t 7) (.t 43))⟩]) (
  .seq (
    .region [
      ⟨some 44, none, [], .a 12000 (.mkSlice 1 4 [u32 0#32] (.c (.int .i64 4)) (.c (.int .i64 4)))⟩,
      ⟨some 8, none, [], .p (.mv (.t 44))⟩,
      ⟨some 9, none, [], .p (.mv (.c (u64 0#64)))⟩]) (
  .seq (
    .seq (
      .region [
        ⟨some 45, none, [], .p (.mv (.c (.int .i64 0)))⟩]) (
    .block 0 (
      .loop k32_0 a32_0 s32_b0))) (
  .seq (
    .region [
      ⟨some 68, none, [], .p (.mv (.t 8))⟩,
      ⟨some 69, none, [], .call 44004 4 true (.f n42) [.t 68]⟩,
      ⟨some 4, none, [], .p (.mv (.t 69))⟩]) (
  .ret)))))),
  70, [Sum.inl 4]⟩

-- 16 calls []
abbrev k16_0 : List Nat := [4, 12, 13]
abbrev a16_0 : List Nat := [4]
abbrev e16_0 (v4 v12 v13 : AV) : Env := [.dead, .dead, .dead, .dead, v4, .dead, .dead, .dead, .dead, .dead, .dead, .dead, v12, v13, .dead, .dead, .dead, .dead, .dead, .dead, .dead, .dead, .dead, .dead, .dead, .dead, .dead, .dead, .dead, .dead, .dead, .dead, .dead, .dead, .dead, .dead, .dead, .dead, .dead, .dead, .dead, .dead, .dead]
abbrev x16_0 (v4 : AV) : Env := [.dead, .dead, .dead, .dead, v4, .dead, .dead, .dead, .dead, .dead, .dead, .dead, .dead, .dead, .dead, .dead, .dead, .dead, .dead, .dead, .dead, .dead, .dead, .dead, .dead, .dead, .dead, .dead, .dead, .dead, .dead, .dead, .dead, .dead, .dead, .dead, .dead, .dead, .dead, .dead, .dead, .dead, .dead]
def s16_b0 : SCode :=
  .seq (
    .region [
      ⟨some 14, none, [], .p (.bin .lss (.t 13) (.t 12))⟩]) (
  .seq (
    .cond (.t 14) (
      .skip) (
      .exit 0)) (
  .seq (
    .block 1 (
      .seq (
        .region [
          ⟨some 15, none, [], .p (.mv (.t 13))⟩,
          ⟨some 5, none, [], .p (.mv (.t 15))⟩]) (
      .block 2 (
        .seq (
          .region [
            ⟨some 17, none, [], .p (.mv (.t 5))⟩,
            ⟨some 18, none, [], .p (.bin .rem (.t 17) (.c (.int .i64 4)))⟩,
            ⟨some 19, none, [], .p (.bin .eql (.t 18) (.c (.int .i64 3)))⟩,
            ⟨some 16, none, [], .p (.mv (.t 19))⟩]) (
        .cond (.t 16) (
          .region [
            ⟨some 20, none, [], .p (.mv (.t 4))⟩,
            ⟨some 21, none, [], .p (.mv (.t 5))⟩,
            ⟨some 22, none, [], .p (.iaddrS 1 (.t 20) (.t 21))⟩,
            ⟨some 23, none, [], .r (.load1 (.t 22))⟩,
            ⟨some 24, none, [], .p (.bin .and (.t 23) (.c (byteAV 15)))⟩,
            ⟨some 25, none, [], .p (.iaddrS 1 (.t 20) (.t 21))⟩,
            ⟨none, none, [], .w (.store1 (.t 25) (.t 24))⟩]) (
          .seq (
            .region [
              ⟨some 27, none, [], .p (.mv (.t 5))⟩,
              ⟨some 28, none, [], .p (.bin .rem (.t 27) (.c (.int .i64 4)))⟩,
              ⟨some 29, none, [], .p (.bin .eql (.t 28) (.c (.int .i64 0)))⟩,
              ⟨some 30, none, [], .p (.mv (.t 29))⟩,
              ⟨some 31, some (30, true), [], .p (.mv (.t 5))⟩,
              ⟨some 32, some (30, true), [], .p (.bin .gtr (.t 31) (.c (.int .i64 0)))⟩,
              ⟨some 33, none, [], .p (.pick (.t 30) (.t 32) (.c (.bool false)))⟩,
              ⟨some 26, none, [], .p (.mv (.t 33))⟩]) (
          .cond (.t 26) (
            .region [
              ⟨some 34, none, [], .p (.mv (.t 4))⟩,
              ⟨some 35, none, [], .p (.mv (.t 5))⟩,
              ⟨some 36, none, [], .p (.iaddrS 1 (.t 34) (.t 35))⟩,
              ⟨some 37, none, [], .r (.load1 (.t 36))⟩,
              ⟨some 38, none, [], .p (.bin .and (.t 37) (.c (byteAV 252)))⟩,
              ⟨some 39, none, [], .p (.iaddrS 1 (.t 34) (.t 35))⟩,
              ⟨none, none, [], .w (.store1 (.t 39) (.t 38))⟩]) (
            .skip)))))))) (
  .region [
    ⟨some 40, none, [], .p (.bin .add (.t 13) (.c (.int .i64 1)))⟩,
    ⟨some 13, none, [], .p (.mv (.t 40))⟩])))

def s16 : SFunc := ⟨
  .seq (
    .region [
      ⟨some 2, none, [], .p (.mv (.c (.str [])))⟩,
      ⟨some 3, none, [], .p (.mv (.c (.int .i64 0)))⟩]) (
  .seq (
    .seq (
      .region [
        ⟨some 6, none, [], .p (.mv (.t 0))⟩,
        ⟨some 7, none, [], .p (.lenV false (.t 6))⟩,
        ⟨some 8, none, [], .p (.bin .neq (.t 7) (.c (.int .i64 16)))⟩]) (
    .cond (.t 8) (
      .seq (
        .region [
          ⟨some 2, none, [], .p (.mv (.c (.str [])))⟩,
          ⟨some 3, none, [], .p (.mv (.c (.int .i64 7)))⟩]) (
      .ret)) (
      .skip))) (
  .seq (
    .region [
      ⟨some 9, none, [], .p (.mv (.t 0))⟩,
      ⟨some 10, none, [], .a 12004 (.toBytes (.t 9))⟩,
      ⟨some 4, none, [], .p (.mv (.t 10))⟩]) (
  .seq (
    .seq (
      .region [
        ⟨some 11, none, [], .p (.mv (.t 4))⟩,
        ⟨some 12, none, [], .p (.lenV true (.t 11))⟩,
        ⟨some 13, none, [], .p (.mv (.c (.int .i64 0)))⟩]) (
    .block 0 (
      .loop k16_0 a16_0 s16_b0))) (
  .seq (
    .region [
      ⟨some 41, none, [], .p (.mv (.t 4))⟩,
      ⟨some 42, none, [], .r (.toStr (.t 41))⟩,
      ⟨some 2, none, [], .p (.mv (.t 42))⟩,
      ⟨some 3, none, [], .p (.mv (.c (.int .i64 0)))⟩]) (
  .ret))))),
  43, [Sum.inl 2, Sum.inl 3]⟩

-- 19 calls [16, 29, 30, 31, 32]
abbrev k19_1 : List Nat := [0, 1, 8, 9, 51, 52]
abbrev a19_1 : List Nat := [0, 1, 8, 9]
abbrev e19_1 (v0 v1 v8 v9 v51 v52 : AV) : Env := [v0, v1, .dead, .dead, .dead, .dead, .dead, .dead, v8, v9, .dead, .dead, .dead, .dead, .dead, .dead, .dead, .dead, .dead, .dead, .dead, .dead, .dead, .dead, .dead, .dead, .dead, .dead, .dead, .dead, .dead, .dead, .dead, .dead, .dead, .dead, .dead, .dead, .dead, .dead, .dead, .dead, .dead, .dead, .dead, .dead, .dead, .dead, .dead, .dead, .dead, v51, v52, .dead, .dead, .dead, .dead, .dead, .dead, .dead, .dead, .dead, .dead, .dead, .dead, .dead, .dead, .dead, .dead, .dead]
abbrev x19_1 (v0 v1 v8 v9 : AV) : Env := [v0, v1, .dead, .dead, .dead, .dead, .dead, .dead, v8, v9, .dead, .dead, .dead, .dead, .dead, .dead, .dead, .dead, .dead, .dead, .dead, .dead, .dead, .dead, .dead, .dead, .dead, .dead, .dead, .dead, .dead, .dead, .dead, .dead, .dead, .dead, .dead, .dead, .dead, .dead, .dead, .dead, .dead, .dead, .dead, .dead, .dead, .dead, .dead, .dead, .dead, .dead, .dead, .dead, .dead, .dead, .dead, .dead, .dead, .dead, .dead, .dead, .dead, .dead, .dead, .dead, .dead, .dead, .dead, .dead]
def s19_b1 : SCode :=
  .seq (
    .region [
      ⟨some 53, none, [], .p (.bin .lss (.t 52) (.c (.int .i64 5)))⟩]) (
  .seq (
    .cond (.t 53) (
      .skip) (
      .exit 3)) (
  .seq (
    .block 4 (
      .seq (
        .region [
          ⟨some 54, none, [], .p (.mv (.t 52))⟩,
          ⟨some 55, none, [], .p (.idxA 5 (.t 51) (.t 52))⟩,
          ⟨some 12, none, [], .p (.mv (.t 54))⟩,
          ⟨some 13, none, [], .p (.mv (.t 55))⟩]) (
      .region [
        ⟨some 56, none, [], .p (.mv (.t 12))⟩,
        ⟨some 57, none, [], .p (.iaddrA 5 1 (.t 9) (.t 56))⟩,
        ⟨some 58, none, [], .r (.load1 (.t 57))⟩,
        ⟨some 59, none, [], .p (.mv (.t 13))⟩,
        ⟨some 60, none, [], .p (.bin .add (.t 58) (.t 59))⟩,
        ⟨some 61, none, [], .p (.iaddrA 5 1 (.t 9) (.t 56))⟩,
        ⟨none, none, [], .w (.store1 (.t 61) (.t 60))⟩]))) (
  .region [
    ⟨some 62, none, [], .p (.bin .add (.t 52) (.c (.int .i64 1)))⟩,
    ⟨some 52, none, [], .p (.mv (.t 62))⟩])))

abbrev k19_0 : List Nat := [0, 1, 8, 9]
abbrev a19_0 : List Nat := [0, 9]
abbrev e19_0 (v0 v1 v8 v9 : AV) : Env := [v0, v1, .dead, .dead, .dead, .dead, .dead, .dead, v8, v9, .dead, .dead, .dead, .dead, .dead, .dead, .dead, .dead, .dead, .dead, .dead, .dead, .dead, .dead, .dead, .dead, .dead, .dead, .dead, .dead, .dead, .dead, .dead, .dead, .dead, .dead, .dead, .dead, .dead, .dead, .dead, .dead, .dead, .dead, .dead, .dead, .dead, .dead, .dead, .dead, .dead, .dead, .dead, .dead, .dead, .dead, .dead, .dead, .dead, .dead, .dead, .dead, .dead, .dead, .dead, .dead, .dead, .dead, .dead, .dead]
abbrev x19_0 (v0 v9 : AV) : Env := [v0, .dead, .dead, .dead, .dead, .dead, .dead, .dead, .dead, v9, .dead, .dead, .dead, .dead, .dead, .dead, .dead, .dead, .dead, .dead, .dead, .dead, .dead, .dead, .dead, .dead, .dead, .dead, .dead, .dead, .dead, .dead, .dead, .dead, .dead, .dead, .dead, .dead, .dead, .dead, .dead, .dead, .dead, .dead, .dead, .dead, .dead, .dead, .dead, .dead, .dead, .dead, .dead, .dead, .dead, .dead, .dead, .dead, .dead, .dead, .dead, .dead, .dead, .dead, .dead, .dead, .dead, .dead, .dead, .dead]
def s19_b0 (n29 n30 : Nat) : SCode :=
  .seq (
    .seq (
      .region [
        ⟨some 30, none, [], .p (.mv (.t 1))⟩,
        ⟨some 31, none, [], .p (.lenV false (.t 30))⟩,
        ⟨some 32, none, [], .p (.bin .gtr (.t 31) (.c (.int .i64 0)))⟩]) (
    .cond (.t 32) (
      .skip) (
      .exit 1))) (
  .block 2 (
    .seq (
      .region [
        ⟨some 33, none, [], .p (.mv (.t 1))⟩,
        ⟨some 34, none, [], .p (.lenV false (.t 33))⟩,
        ⟨some 35, none, [], .p (.minmax false (.t 34) (.c (.int .i64 16)))⟩,
        ⟨some 10, none, [], .p (.mv (.t 35))⟩]) (
    .seq (
      .region [
        ⟨some 11, none, [], .a 40000 (.alloc [byteAV 0, byteAV 0, byteAV 0, byteAV 0, byteAV 0, byteAV 0, byteAV 0, byteAV 0, byteAV 0, byteAV 0, byteAV 0, byteAV 0, byteAV 0, byteAV 0, byteAV 0, byteAV 0, byteAV 0])⟩]) (
    .seq (
      .region [
        ⟨some 36, none, [], .p (.slcA 17 1 (.t 11) none none)⟩,
        ⟨some 37, none, [], .p (.mv (.t 1))⟩,
        ⟨some 38, none, [], .p (.mv (.t 10))⟩,
        ⟨some 39, none, [], .p (.slcStr (.t 37) none (some (.t 38)))⟩,
        ⟨some 40, none, [], .w (.copy 1 (.t 36) (.t 39))⟩]) (
    .seq (
      .region [
        ⟨some 41, none, [], .p (.mv (.t 10))⟩,
        ⟨some 42, none, [], .p (.iaddrA 17 1 (.t 11) (.t 41))⟩,
        ⟨none, none, [], .w (.store1 (.t 42) (.c (byteAV 1)))⟩]) (
    .seq (
      .region [
        ⟨some 43, none, [], .p (.mv (.t 1))⟩,
        ⟨some 44, none, [], .p (.mv (.t 10))⟩,
        ⟨some 45, none, [], .p (.slcStr (.t 43) (some (.t 44)) none)⟩,
        ⟨some 1, none, [], .p (.mv (.t 45))⟩]) (
    .seq (
      .seq (
        .region [
          ⟨some 46, none, [], .p (.slcA 17 1 (.t 11) none (some (.c (.int .i64 16))))⟩,
          ⟨some 47, none, [], .r (.toStr (.t 46))⟩,
          ⟨some 48, none, [], .p (.iaddrA 17 1 (.t 11) (.c (.int .i64 16)))⟩,
          ⟨some 49, none, [], .r (.load1 (.t 48))⟩,
          ⟨some 50, none, [], .p (.conv .u64 (.t 49))⟩,
          ⟨some 51, none, [], .call 56020 4 true (.f n29) [.t 47, .t 50]⟩,
          ⟨some 52, none, [], .p (.mv (.c (.int .i64 0)))⟩]) (
      .block 3 (
        .loop k19_1 a19_1 s19_b1))) (
    .region [
      ⟨some 63, none, [], .r (.loadN 5 (.t 8))⟩,
      ⟨some 64, none, [], .call 76004 4 false (.f n30) [.t 9, .t 63]⟩]))))))))

def s19 (n16 n29 n30 n31 n32 : Nat) : SFunc := ⟨
  .seq (
    .region [
      ⟨some 4, none, [], .p (.mv (.c (.str [])))⟩,
      ⟨some 5, none, [], .p (.mv (.c (.int .i64 0)))⟩]) (
  .seq (
    .block 0 (
      .seq (
        .region [
          ⟨some 15, none, [], .p (.mv (.t 0))⟩,
          ⟨some 16, none, [], .p (.lenV false (.t 15))⟩,
          ⟨some 17, none, [], .p (.bin .neq (.t 16) (.c (.int .i64 32)))⟩,
          ⟨some 14, none, [], .p (.mv (.t 17))⟩]) (
      .cond (.t 14) (
        .seq (
          .region [
            ⟨some 4, none, [], .p (.mv (.c (.str [])))⟩,
            ⟨some 5, none, [], .p (.mv (.c (.int .i64 7)))⟩]) (
        .ret)) (
        .seq (
          .region [
            ⟨some 19, none, [], .p (.mv (.t 1))⟩,
            ⟨some 20, none, [], .p (.lenV false (.t 19))⟩,
            ⟨some 21, none, [], .p (.bin .gtr (.t 20) (.c (.int .i64 65536)))⟩,
            ⟨some 18, none, [], .p (.mv (.t 21))⟩]) (
        .cond (.t 18) (
          .seq (
            .region [
              ⟨some 4, none, [], .p (.mv (.c (.str [])))⟩,
              ⟨some 5, none, [], .p (.mv (.c (.int .i64 5)))⟩]) (
          .ret)) (
          .skip)))))) (
  .seq (
    .region [
      ⟨some 23, none, [], .p (.mv (.t 0))⟩,
      ⟨some 24, none, [], .p (.slcStr (.t 23) none (some (.c (.int .i64 16))))⟩,
      ⟨some 25, none, [], .call 20008 4 true (.f n16) [.t 24]⟩,
      ⟨some 22, none, [], .p (.mv (.t 25))⟩,
      ⟨some 26, none, [], .p (.extract (.t 22) 0)⟩,
      ⟨some 27, none, [], .p (.extract (.t 22) 1)⟩,
      ⟨some 6, none, [], .p (.mv (.t 26))⟩,
      ⟨some 7, none, [], .p (.mv (.t 27))⟩]) (
  .seq (
    .region [
      ⟨some 28, none, [], .p (.mv (.t 6))⟩,
      ⟨some 29, none, [], .call 24004 4 true (.f n29) [.t 28, .c (u64 0#64)]⟩,
      ⟨some 8, none, [], .a 24008 (.alloc [u64 0#64, u64 0#64, u64 0#64, u64 0#64, u64 0#64])⟩,
      ⟨none, none, [], .w (.storeN 5 (.t 8) (.t 29))⟩]) (
  .seq (
    .region [
      ⟨some 9, none, [], .a 28000 (.alloc [u64 0#64, u64 0#64, u64 0#64, u64 0#64, u64 0#64])⟩]) (
  .seq (
    .block 1 (
      .loop k19_0 a19_0 (s19_b0 n29 n30))) (
  .seq (
    .region [
      ⟨some 65, none, [], .call 80000 4 false (.f n31) [.t 9]⟩]) (
  .seq (
    .region [
      ⟨some 66, none, [], .r (.loadN 5 (.t 9))⟩,
      ⟨some 67, none, [], .p (.mv (.t 0))⟩,
      ⟨some 68, none, [], .p (.slcStr (.t 67) (some (.c (.int .i64 16))) none)⟩,
      ⟨some 69, none, [], .call 84012 4 true (.f n32) [.t 66, .t 68]⟩,
      ⟨some 4, none, [], .p (.mv (.t 69))⟩,
      ⟨some 5, none, [], .p (.mv (.c (.int .i64 0)))⟩]) (
  .ret)))))))),
  70, [Sum.inl 4, Sum.inl 5]⟩


/-- Five limbs. -/
structure V5 where
  a0 : BitVec 64
  a1 : BitVec 64
  a2 : BitVec 64
  a3 : BitVec 64
  a4 : BitVec 64
def V5.cells (v : V5) : List AV := [u64 v.a0, u64 v.a1, u64 v.a2, u64 v.a3, u64 v.a4]
def V5.nat (v : V5) : Nat := nv v.a0 v.a1 v.a2 v.a3 v.a4

def ct1 (a : V5) : BitVec 64 := a.a1 + a.a0 >>> 26
def ct2 (a : V5) : BitVec 64 := a.a2 + ct1 a >>> 26
def ct3 (a : V5) : BitVec 64 := a.a3 + ct2 a >>> 26
def ct4 (a : V5) : BitVec 64 := a.a4 + ct3 a >>> 26
def cd0 (a : V5) : BitVec 64 := (a.a0 &&& 67108863#64) + ct4 a >>> 26 * 5#64
/-- What is above 26 bits goes on. -/
def cv (a : V5) : V5 := ⟨cd0 a &&& 67108863#64, (ct1 a &&& 67108863#64) + cd0 a >>> 26, ct2 a &&& 67108863#64, ct3 a &&& 67108863#64, ct4 a &&& 67108863#64⟩

theorem l41 (C : Det.Calls) (M : Mem) (d id : Nat) (a : V5) (fl : Bool) (hd : d < M.length) (hg : ∀ o, get M ⟨d, id, 5, o⟩ = some (.cells a.cells true fl)) (n : Nat) :
    fgt a41_0 (rnd0 (some (e41_0 (.ptr (some ⟨d, id, 5, 0⟩)) (u64 0#64) (.int .i64 0), mk [] :: M)) k41_0 C s41_b0 (n + 5)) =
      some (.exit 0, x41_0 (.ptr (some ⟨d, id, 5, 0⟩)) (u64 (ct4 a >>> 26)), mk [] :: put M d id (.cells [u64 (a.a0 &&& 67108863#64), u64 (ct1 a &&& 67108863#64), u64 (ct2 a &&& 67108863#64), u64 (ct3 a &&& 67108863#64), u64 (ct4 a &&& 67108863#64)] true fl)) := by
  have hn1 : d ≠ M.length := by omega
  have w1 : IntKind.wrap .i64 1 = 1 := rfl
  have w2 : IntKind.wrap .i64 2 = 2 := rfl
  have w3 : IntKind.wrap .i64 3 = 3 := rfl
  have w4 : IntKind.wrap .i64 4 = 4 := rfl
  have w5 : IntKind.wrap .i64 5 = 5 := rfl
  simp only [V5.cells] at hg
  rw [rnd0_some]
  conv => lhs; arg 2; arg 1; rw [s41_b0]
  simp (disch := omega) [w1, w2, w3, w4, w5, if_pos, get_low, put_low, get_sput, put_sput, put_length, hd, hg, hn1]
  rw [rnd0_some]
  conv => lhs; arg 2; arg 1; rw [s41_b0]
  simp (disch := omega) [w1, w2, w3, w4, w5, if_pos, get_low, put_low, get_sput, put_sput, put_length, hd, hg, hn1]
  rw [rnd0_some]
  conv => lhs; arg 2; arg 1; rw [s41_b0]
  simp (disch := omega) [w1, w2, w3, w4, w5, if_pos, get_low, put_low, get_sput, put_sput, put_length, hd, hg, hn1]
  rw [rnd0_some]
  conv => lhs; arg 2; arg 1; rw [s41_b0]
  simp (disch := omega) [w1, w2, w3, w4, w5, if_pos, get_low, put_low, get_sput, put_sput, put_length, hd, hg, hn1]
  rw [rnd0_some]
  conv => lhs; arg 2; arg 1; rw [s41_b0]
  simp (disch := omega) [w1, w2, w3, w4, w5, if_pos, get_low, put_low, get_sput, put_sput, put_length, hd, hg, hn1]
  rw [rnd0_some]
  conv => lhs; arg 2; arg 1; rw [s41_b0]
  simp (disch := omega) [w1, w2, w3, w4, w5, if_pos, get_low, put_low, get_sput, put_sput, put_length, hd, hg, hn1]
  exact ⟨rfl, rfl⟩

theorem carry_ev {SP : SProg} {n41 : Nat} (h41 : SP.fn n41 = some s41) (k : Nat) (M : Mem) (d id : Nat) (a : V5) (fl : Bool) (hd : d < M.length) (hg : ∀ o, get M ⟨d, id, 5, o⟩ = some (.cells a.cells true fl)) :
    callFn SP (k + 1) n41 [.ptr (some ⟨d, id, 5, 0⟩)] M = some (.undef, [], put M d id (.cells (cv a).cells true fl)) := by
  have hn1 : d ≠ M.length := by omega
  have hlp := l41 (callFn SP k) M d id a fl hd hg 1
  rw [call_fn (h41.trans rfl) (by simp)]
  simp (disch := omega) [hn1]
  rw [ev_loop 6 (by simp [hn1]) hlp (by omega)]
  simp (disch := omega) [if_pos, get_low, put_low, get_sput, put_sput, put_put, put_length, hd, hn1]
  rfl

theorem top_get (M : Mem) (id z : Nat) (c : Con) (l : List (Nat × Con)) (h : c.size = z) : ∀ o, get (mk ((id, c) :: l) :: M) ⟨M.length, id, z, o⟩ = some c := fun o => by
  rw [get_top, mk_cons, if_pos rfl]
  simp only [h, if_true]
theorem snd_get (M : Mem) (i0 id z : Nat) (c0 c : Con) (l : List (Nat × Con)) (hi : id ≠ i0) (h : c.size = z) : ∀ o, get (mk ((i0, c0) :: (id, c) :: l) :: M) ⟨M.length, id, z, o⟩ = some c := fun o => by
  rw [get_top, mk_cons, if_neg hi, mk_cons, if_pos rfl]
  simp only [h, if_true]
theorem snd_put (M : Mem) (i0 id : Nat) (c0 c x : Con) (l : List (Nat × Con)) (hi : id ≠ i0) : put (mk ((i0, c0) :: (id, c) :: l) :: M) M.length id x = mk ((i0, c0) :: (id, x) :: l) :: M := by
  rw [put_top, setAt_mk]
  simp [ups, hi, Ne.symm hi]

/-! ### a product -/
def V5.list (v : V5) : List (BitVec 64) := [v.a0, v.a1, v.a2, v.a3, v.a4]
theorem cells_list (v : V5) : v.cells = v.list.map u64 := rfl
/-- One limb times all of another one's. -/
def ti (x : BitVec 64) (r : List (BitVec 64)) (i : Nat) (o : List (BitVec 64)) : Nat → List (BitVec 64)
  | 0 => o
  | k + 1 => if i + k < 5 then (ti x r i o k).set (i + k) (nth (ti x r i o k) (i + k) + x * nth r k) else (ti x r i o k).set (i + k - 5) (nth (ti x r i o k) (i + k - 5) + x * nth r k * 5#64)
theorem ti_len (x : BitVec 64) (r : List (BitVec 64)) (i : Nat) (o : List (BitVec 64)) : ∀ k, (ti x r i o k).length = o.length
  | 0 => rfl
  | k + 1 => by rw [ti]; split <;> rw [List.length_set, ti_len x r i o k]
def tm (a r : List (BitVec 64)) : Nat → List (BitVec 64)
  | 0 => [0#64, 0#64, 0#64, 0#64, 0#64]
  | i + 1 => ti (nth a i) r i (tm a r i) 5
theorem tm_len (a r : List (BitVec 64)) : ∀ i, (tm a r i).length = 5
  | 0 => rfl
  | i + 1 => by rw [tm, ti_len, tm_len a r i]

theorem l30_1 (C : Det.Calls) (M : Mem) (d id : Nat) (hd : d < M.length) (x : BitVec 64) (r o : List (BitVec 64)) (hr : r.length = 5) (ho : o.length = 5) (i : Nat) (hi : i < 5) (j : Nat) : ∀ (k n : Nat), k + j = 5 → j < n →
    fgt a30_1 (rnd0 (some (e30_1 (.ptr (some ⟨d, id, 5, 0⟩)) (.ptr (some ⟨M.length, 0, 5, 0⟩)) (.ptr (some ⟨M.length, 4000, 5, 0⟩)) (.int .i64 i) (u64 x) (.ptr (some ⟨d, id, 5, 0⟩)) (.int .i64 i) (.agg (r.map u64)) (.int .i64 k), mk [(0, .cells (r.map u64) true true), (4000, .cells ((ti x r i o k).map u64) true true)] :: M)) k30_1 C s30_b1 n) =
      some (.exit 2, x30_1 (.ptr (some ⟨d, id, 5, 0⟩)) (.ptr (some ⟨M.length, 0, 5, 0⟩)) (.ptr (some ⟨M.length, 4000, 5, 0⟩)) (.ptr (some ⟨d, id, 5, 0⟩)) (.int .i64 i), mk [(0, .cells (r.map u64) true true), (4000, .cells ((ti x r i o 5).map u64) true true)] :: M) := by
  have hn1 : d ≠ M.length := by omega
  induction j with
  | zero =>
    intro k n h hn
    obtain rfl : k = 5 := by omega
    rw [rnd0_some]
    conv => lhs; arg 2; arg 1; rw [s30_b1]
    generalize ti x r i o 5 = O
    simp [hn1]
  | succ j ih0 =>
    intro k n h hn
    obtain ⟨n, rfl⟩ : ∃ m, n = m + 1 := ⟨n - 1, by omega⟩
    have ih := ih0 (k + 1) n (by omega) (by omega)
    have hk : (k : Int) < 5 := by omega
    have hk2 : k < 5 := by omega
    have hl := ti_len x r i o k
    rw [ho] at hl
    rw [ti] at ih
    generalize ti x r i o k = O at *
    have gr : (r.map u64)[k]? = some (u64 (nth r k)) := by rw [List.getElem?_map, getElem?_nth r k (by omega)]; rfl
    have ga : ∀ p, p < 5 → (O.map u64)[p]? = some (u64 (nth O p)) := fun p hp => by rw [List.getElem?_map, getElem?_nth O p (by omega)]; rfl
    rw [rnd0_some]
    conv => lhs; arg 2; arg 1; rw [s30_b1]
    by_cases h5 : i + k < 5
    · have t0 : ((i : Int) + (k : Int)).toNat = i + k := by omega
      have h6 : (i : Int) + k < 5 := by omega
      rw [if_pos h5] at ih
      obtain ⟨O2, hO2⟩ : ∃ O2, O.set (i + k) (nth O (i + k) + x * nth r k) = O2 := ⟨_, rfl⟩
      have hs : (O.map u64).set (i + k) (u64 (nth O (i + k) + x * nth r k)) = O2.map u64 := by rw [← hO2, List.map_set]
      rw [hO2] at ih
      simpa (disch := omega) [-List.getElem?_map, -List.map_set, hk, hk2, gr, ga, hs, h5, h6, t0, hr, hl, if_pos, IntWalk.i64_in, hn1] using ih
    · have t0 : ((i : Int) + (k : Int) - 5).toNat = i + k - 5 := by omega
      have h6 : ¬ (i : Int) + k < 5 := by omega
      rw [if_neg h5] at ih
      obtain ⟨O2, hO2⟩ : ∃ O2, O.set (i + k - 5) (nth O (i + k - 5) + x * nth r k * 5#64) = O2 := ⟨_, rfl⟩
      have hs : (O.map u64).set (i + k - 5) (u64 (nth O (i + k - 5) + x * nth r k * 5#64)) = O2.map u64 := by rw [← hO2, List.map_set]
      rw [hO2] at ih
      simpa (disch := omega) [-List.getElem?_map, -List.map_set, hk, hk2, gr, ga, hs, h5, h6, t0, hr, hl, if_pos, IntWalk.i64_in, hn1] using ih

theorem l30_0 (C : Det.Calls) (M : Mem) (d id : Nat) (hd : d < M.length) (a r : List (BitVec 64)) (fl : Bool) (hg : ∀ o, get M ⟨d, id, 5, o⟩ = some (.cells (a.map u64) true fl)) (ha : a.length = 5) (hr : r.length = 5) (j : Nat) : ∀ (i n : Nat), i + j = 5 → j < n →
    fgt a30_0 (rnd0 (some (e30_0 (.ptr (some ⟨d, id, 5, 0⟩)) (.ptr (some ⟨M.length, 0, 5, 0⟩)) (.ptr (some ⟨M.length, 4000, 5, 0⟩)) (.ptr (some ⟨d, id, 5, 0⟩)) (.int .i64 i), mk [(0, .cells (r.map u64) true true), (4000, .cells ((tm a r i).map u64) true true)] :: M)) k30_0 C s30_b0 n) =
      some (.exit 0, x30_0 (.ptr (some ⟨d, id, 5, 0⟩)) (.ptr (some ⟨M.length, 4000, 5, 0⟩)), mk [(4000, .cells ((tm a r 5).map u64) true true)] :: M) := by
  have hn1 : d ≠ M.length := by omega
  induction j with
  | zero =>
    intro i n h hn
    obtain rfl : i = 5 := by omega
    rw [rnd0_some]
    conv => lhs; arg 2; arg 1; rw [s30_b0]
    generalize tm a r 5 = O
    simp [hn1]
  | succ j ih0 =>
    intro i n h hn
    obtain ⟨n, rfl⟩ : ∃ m, n = m + 1 := ⟨n - 1, by omega⟩
    have ih := ih0 (i + 1) n (by omega) (by omega)
    have hi : (i : Int) < 5 := by omega
    have hi2 : i < 5 := by omega
    have ga : (a.map u64)[i]? = some (u64 (nth a i)) := by rw [List.getElem?_map, getElem?_nth a i (by omega)]; rfl
    have hl := tm_len a r i
    have q1 := l30_1 C M d id hd (nth a i) r (tm a r i) hr hl i hi2 5 0 6 rfl (by omega)
    rw [show ti (nth a i) r i (tm a r i) 0 = tm a r i from rfl] at q1
    rw [tm] at ih
    have hT : (r.map u64).take 5 = r.map u64 := List.take_of_length_le (by simp [hr])
    generalize tm a r i = O at *
    generalize ti (nth a i) r i O 5 = O' at *
    rw [rnd0_some]
    conv => lhs; arg 2; arg 1; rw [s30_b0]
    simp (disch := omega) [-List.getElem?_map, hi, hi2, ga, get_low, hd, hg, hn1, hT, hr]
    rw [ev_loop 6 (by simp [hn1]) q1 (by omega)]
    simpa (disch := omega) [IntWalk.i64_in, hn1] using ih

/-- The product, carried. -/
def lst (l : List (BitVec 64)) : V5 := ⟨nth l 0, nth l 1, nth l 2, nth l 3, nth l 4⟩
theorem lst_cells (l : List (BitVec 64)) (h : l.length = 5) : (lst l).cells = l.map u64 := by
  match l, h with
  | [a, b, c, d, e], _ => rfl
def tv (a r : V5) : V5 := cv (lst (tm a.list r.list 5))

theorem times_ev {SP : SProg} {n30 n41 : Nat} (h41 : SP.fn n41 = some s41) (h30 : SP.fn n30 = some (s30 n41)) (k : Nat) (M : Mem) (d id : Nat) (a r : V5) (fl : Bool) (hd : d < M.length) (hg : ∀ o, get M ⟨d, id, 5, o⟩ = some (.cells a.cells true fl)) :
    callFn SP (k + 2) n30 [.ptr (some ⟨d, id, 5, 0⟩), .agg r.cells] M = some (.undef, [], put M d id (.cells (tv a r).cells true fl)) := by
  have hn1 : d ≠ M.length := by omega
  rw [cells_list] at hg
  have q0 := l30_0 (callFn SP (k + 1)) M d id hd a.list r.list fl hg rfl rfl 5 0 6 rfl (by omega)
  have hl := tm_len a.list r.list 5
  have hc := carry_ev h41 k (mk [(4000, .cells (lst (tm a.list r.list 5)).cells true true)] :: M) M.length 4000 (lst (tm a.list r.list 5)) true (by simp) (top_get M 4000 5 _ [] rfl)
  rw [← lst_cells _ hl] at q0
  rw [tv]
  rw [show (tm a.list r.list 0).map u64 = [u64 0#64, u64 0#64, u64 0#64, u64 0#64, u64 0#64] from rfl, ← cells_list] at q0
  generalize lst (tm a.list r.list 5) = O at *
  rw [cells_list] at q0 ⊢
  have hr5 : (r.list.map u64).length = 5 := rfl
  have hu : AV.unders 0 (r.list.map u64) = true := by simp
  have hun : AV.noNils (r.list.map u64) = true := by simp
  generalize r.list.map u64 = R at *
  rw [call_fn (h30.trans rfl) (by simp)]
  simp (disch := omega) [hn1, hr5, hu, hun]
  rw [ev_loop 6 (by simp [hn1]) q0 (by omega)]
  simp only [V5.cells] at hc ⊢
  simp only [V5.list, List.map_cons, List.map_nil] at hg
  simp (disch := omega) [hn1, hc, get_low, put_low, hd, hg]
end Go.Det.P
