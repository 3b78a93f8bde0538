/-
  LIB, words: the code of package words and of its document's answer, and what each function comes to, whatever program they stand in.
-/
import Derived.Test.YtaennaoaoahjmaaDoorDetU
set_option maxRecDepth 100000
set_option maxHeartbeats 4000000
set_option linter.unusedSimpArgs false
set_option linter.unusedVariables false
namespace Go.Det.W
open Go.Det

-- 10 calls []
abbrev k10_0 : List Nat := [0, 1, 5, 14, 15]
abbrev a10_0 : List Nat := [5]
abbrev e10_0 (v0 v1 v5 v14 v15 : AV) : Env := [v0, v1, .dead, .dead, .dead, v5, .dead, .dead, .dead, .dead, .dead, .dead, .dead, .dead, v14, v15, .dead, .dead, .dead, .dead, .dead, .dead, .dead, .dead, .dead, .dead, .dead, .dead, .dead, .dead, .dead]
abbrev x10_0 (v5 : AV) : Env := [.dead, .dead, .dead, .dead, .dead, v5, .dead, .dead, .dead, .dead, .dead, .dead, .dead, .dead, .dead, .dead, .dead, .dead, .dead, .dead, .dead, .dead, .dead, .dead, .dead, .dead, .dead, .dead, .dead, .dead, .dead]
def s10_b0 : SCode :=
  .seq (
    .region [
      ⟨some 16, none, [], .p (.bin .lss (.t 15) (.t 14))⟩]) (
  .seq (
    .cond (.t 16) (
      .skip) (
      .exit 0)) (
  .seq (
    .block 1 (
      .seq (
        .region [
          ⟨some 17, none, [], .p (.mv (.t 15))⟩,
          ⟨some 6, none, [], .p (.mv (.t 17))⟩]) (
      .region [
        ⟨some 18, none, [], .p (.mv (.t 5))⟩,
        ⟨some 19, none, [], .p (.mv (.t 6))⟩,
        ⟨some 20, none, [], .p (.mv (.t 0))⟩,
        ⟨some 21, none, [], .p (.mv (.t 6))⟩,
        ⟨some 22, none, [], .p (.idxStr (.t 20) (.t 21))⟩,
        ⟨some 23, none, [], .p (.mv (.t 1))⟩,
        ⟨some 24, none, [], .p (.mv (.t 6))⟩,
        ⟨some 25, none, [], .p (.idxStr (.t 23) (.t 24))⟩,
        ⟨some 26, none, [], .p (.bin .xor (.t 22) (.t 25))⟩,
        ⟨some 27, none, [], .p (.iaddrS 1 (.t 18) (.t 19))⟩,
        ⟨none, none, [], .w (.store1 (.t 27) (.t 26))⟩]))) (
  .region [
    ⟨some 28, none, [], .p (.bin .add (.t 15) (.c (.int .i64 1)))⟩,
    ⟨some 15, none, [], .p (.mv (.t 28))⟩])))

def s10 : SFunc := ⟨
  .seq (
    .region [
      ⟨some 4, none, [], .p (.mv (.c (.str [])))⟩]) (
  .seq (
    .region [
      ⟨some 7, none, [], .p (.mv (.t 0))⟩,
      ⟨some 8, none, [], .p (.lenV false (.t 7))⟩,
      ⟨some 9, none, [], .p (.mv (.t 1))⟩,
      ⟨some 10, none, [], .p (.lenV false (.t 9))⟩,
      ⟨some 11, none, [], .p (.minmax false (.t 8) (.t 10))⟩,
      ⟨some 12, none, [], .a 4020 (.mkSlice 1 1 [byteAV 0] (.t 11) (.t 11))⟩,
      ⟨some 5, none, [], .p (.mv (.t 12))⟩]) (
  .seq (
    .seq (
      .region [
        ⟨some 13, none, [], .p (.mv (.t 5))⟩,
        ⟨some 14, none, [], .p (.lenV true (.t 13))⟩,
        ⟨some 15, none, [], .p (.mv (.c (.int .i64 0)))⟩]) (
    .block 0 (
      .loop k10_0 a10_0 s10_b0))) (
  .seq (
    .region [
      ⟨some 29, none, [], .p (.mv (.t 5))⟩,
      ⟨some 30, none, [], .r (.toStr (.t 29))⟩,
      ⟨some 4, none, [], .p (.mv (.t 30))⟩]) (
  .ret)))),
  31, [Sum.inl 4]⟩


-- 11 calls [24]
abbrev k11_0 : List Nat := [0, 1, 5, 6]
abbrev a11_0 : List Nat := [5]
abbrev e11_0 (v0 v1 v5 v6 : AV) : Env := [v0, v1, .dead, .dead, .dead, v5, v6, .dead, .dead, .dead, .dead, .dead, .dead, .dead, .dead, .dead, .dead, .dead, .dead, .dead, .dead, .dead, .dead, .dead, .dead, .dead, .dead, .dead, .dead, .dead, .dead, .dead, .dead]
abbrev x11_0 (v5 : AV) : Env := [.dead, .dead, .dead, .dead, .dead, v5, .dead, .dead, .dead, .dead, .dead, .dead, .dead, .dead, .dead, .dead, .dead, .dead, .dead, .dead, .dead, .dead, .dead, .dead, .dead, .dead, .dead, .dead, .dead, .dead, .dead, .dead, .dead]
def s11_b0 (n24 : Nat) : SCode :=
  .seq (
    .seq (
      .region [
        ⟨some 8, none, [], .p (.mv (.t 6))⟩,
        ⟨some 9, none, [], .p (.mv (.t 0))⟩,
        ⟨some 10, none, [], .p (.lenV false (.t 9))⟩,
        ⟨some 11, none, [], .p (.bin .lss (.t 8) (.t 10))⟩,
        ⟨some 12, none, [], .p (.mv (.t 11))⟩,
        ⟨some 13, some (12, true), [], .p (.mv (.t 6))⟩,
        ⟨some 14, some (12, true), [], .p (.mv (.t 1))⟩,
        ⟨some 15, some (12, true), [], .p (.lenV false (.t 14))⟩,
        ⟨some 16, some (12, true), [], .p (.bin .lss (.t 13) (.t 15))⟩,
        ⟨some 17, none, [], .p (.pick (.t 12) (.t 16) (.c (.bool false)))⟩]) (
    .cond (.t 17) (
      .skip) (
      .exit 0))) (
  .seq (
    .block 1 (
      .seq (
        .region [
          ⟨some 20, none, [], .p (.mv (.t 0))⟩,
          ⟨some 21, none, [], .p (.mv (.t 6))⟩,
          ⟨some 22, none, [], .p (.idxStr (.t 20) (.t 21))⟩,
          ⟨some 23, none, [], .p (.mv (.t 1))⟩,
          ⟨some 24, none, [], .p (.mv (.t 6))⟩,
          ⟨some 25, none, [], .p (.idxStr (.t 23) (.t 24))⟩,
          ⟨some 26, none, [], .call 20024 4 true (.f n24) [.t 22, .t 25]⟩,
          ⟨some 7, none, [], .p (.mv (.t 26))⟩]) (
      .region [
        ⟨some 27, none, [], .p (.mv (.t 5))⟩,
        ⟨some 28, none, [], .p (.mv (.t 7))⟩,
        ⟨some 29, none, [], .a 24008 (.buildS 1 1 [byteAV 0] [(0, 1, .t 28)])⟩,
        ⟨some 30, none, [], .w (.append 24012 1 1 (.t 27) (.t 29))⟩,
        ⟨some 5, none, [], .p (.mv (.t 30))⟩]))) (
  .region [
    ⟨some 18, none, [], .p (.mv (.t 6))⟩,
    ⟨some 19, none, [], .p (.bin .add (.t 18) (.c (.int .i64 1)))⟩,
    ⟨some 6, none, [], .p (.mv (.t 19))⟩]))

def s11 (n24 : Nat) : SFunc := ⟨
  .seq (
    .region [
      ⟨some 4, none, [], .p (.mv (.c (.str [])))⟩]) (
  .seq (
    .region [
      ⟨some 5, none, [], .p (.mv (.c (.slice none 0 0)))⟩]) (
  .seq (
    .seq (
      .region [
        ⟨some 6, none, [], .p (.mv (.c (.int .i64 0)))⟩]) (
    .block 0 (
      .loop k11_0 a11_0 (s11_b0 n24)))) (
  .seq (
    .region [
      ⟨some 31, none, [], .p (.mv (.t 5))⟩,
      ⟨some 32, none, [], .r (.toStr (.t 31))⟩,
      ⟨some 4, none, [], .p (.mv (.t 32))⟩]) (
  .ret)))),
  33, [Sum.inl 4]⟩


-- 24 calls []
abbrev k24_0 : List Nat := [0, 1, 5, 6, 7]
abbrev a24_0 : List Nat := [5]
abbrev e24_0 (v0 v1 v5 v6 v7 : AV) : Env := [v0, v1, .dead, .dead, .dead, v5, v6, v7, .dead, .dead, .dead, .dead, .dead, .dead, .dead, .dead, .dead, .dead, .dead, .dead, .dead, .dead, .dead, .dead, .dead, .dead, .dead]
abbrev x24_0 (v5 : AV) : Env := [.dead, .dead, .dead, .dead, .dead, v5, .dead, .dead, .dead, .dead, .dead, .dead, .dead, .dead, .dead, .dead, .dead, .dead, .dead, .dead, .dead, .dead, .dead, .dead, .dead, .dead, .dead]
def s24_b0 : SCode :=
  .seq (
    .seq (
      .region [
        ⟨some 8, none, [], .p (.mv (.t 7))⟩,
        ⟨some 9, none, [], .p (.bin .lss (.t 8) (.c (.int .i64 8)))⟩]) (
    .cond (.t 9) (
      .skip) (
      .exit 0))) (
  .seq (
    .block 1 (
      .seq (
        .seq (
          .region [
            ⟨some 12, none, [], .p (.mv (.t 0))⟩,
            ⟨some 13, none, [], .p (.bin .rem (.t 12) (.c (byteAV 2)))⟩,
            ⟨some 14, none, [], .p (.mv (.t 1))⟩,
            ⟨some 15, none, [], .p (.bin .rem (.t 14) (.c (byteAV 2)))⟩,
            ⟨some 16, none, [], .p (.bin .neq (.t 13) (.t 15))⟩]) (
        .cond (.t 16) (
          .region [
            ⟨some 17, none, [], .p (.mv (.t 5))⟩,
            ⟨some 18, none, [], .p (.mv (.t 6))⟩,
            ⟨some 19, none, [], .p (.bin .add (.t 17) (.t 18))⟩,
            ⟨some 5, none, [], .p (.mv (.t 19))⟩]) (
          .skip))) (
      .seq (
        .region [
          ⟨some 20, none, [], .p (.mv (.t 0))⟩,
          ⟨some 21, none, [], .p (.bin .quo (.t 20) (.c (byteAV 2)))⟩,
          ⟨some 0, none, [], .p (.mv (.t 21))⟩]) (
      .seq (
        .region [
          ⟨some 22, none, [], .p (.mv (.t 1))⟩,
          ⟨some 23, none, [], .p (.bin .quo (.t 22) (.c (byteAV 2)))⟩,
          ⟨some 1, none, [], .p (.mv (.t 23))⟩]) (
      .region [
        ⟨some 24, none, [], .p (.mv (.t 6))⟩,
        ⟨some 25, none, [], .p (.bin .mul (.c (byteAV 2)) (.t 24))⟩,
        ⟨some 6, none, [], .p (.mv (.t 25))⟩]))))) (
  .region [
    ⟨some 10, none, [], .p (.mv (.t 7))⟩,
    ⟨some 11, none, [], .p (.bin .add (.t 10) (.c (.int .i64 1)))⟩,
    ⟨some 7, none, [], .p (.mv (.t 11))⟩]))

def s24 : SFunc := ⟨
  .seq (
    .region [
      ⟨some 4, none, [], .p (.mv (.c (byteAV 0)))⟩]) (
  .seq (
    .region [
      ⟨some 5, none, [], .p (.mv (.c (byteAV 0)))⟩]) (
  .seq (
    .region [
      ⟨some 6, none, [], .p (.mv (.c (byteAV 1)))⟩]) (
  .seq (
    .seq (
      .region [
        ⟨some 7, none, [], .p (.mv (.c (.int .i64 0)))⟩]) (
    .block 0 (
      .loop k24_0 a24_0 s24_b0))) (
  .seq (
    .region [
      ⟨some 26, none, [], .p (.mv (.t 5))⟩,
      ⟨some 4, none, [], .p (.mv (.t 26))⟩]) (
  .ret))))),
  27, [Sum.inl 4]⟩


-- 17 calls []
def s17 : SFunc := ⟨
  .seq (
    .region [
      ⟨some 4, none, [], .p (.mv (.c (u32 0#32)))⟩]) (
  .seq (
    .region [
      ⟨some 6, none, [], .p (.mv (.t 1))⟩,
      ⟨some 7, none, [], .p (.conv .u64 (.t 6))⟩,
      ⟨some 8, none, [], .p (.bin .rem (.t 7) (.c (u64 32#64)))⟩,
      ⟨some 5, none, [], .p (.mv (.t 8))⟩]) (
  .seq (
    .region [
      ⟨some 9, none, [], .p (.mv (.t 0))⟩,
      ⟨some 10, none, [], .p (.mv (.t 5))⟩,
      ⟨some 11, none, [], .p (.bin .shl (.t 9) (.t 10))⟩,
      ⟨some 12, none, [], .p (.mv (.t 0))⟩,
      ⟨some 13, none, [], .p (.mv (.t 5))⟩,
      ⟨some 14, none, [], .p (.bin .sub (.c (u64 32#64)) (.t 13))⟩,
      ⟨some 15, none, [], .p (.bin .shr (.t 12) (.t 14))⟩,
      ⟨some 16, none, [], .p (.bin .or (.t 11) (.t 15))⟩,
      ⟨some 4, none, [], .p (.mv (.t 16))⟩]) (
  .ret))),
  17, [Sum.inl 4]⟩


-- 18 calls []
abbrev k18_0 : List Nat := [0, 5, 6]
abbrev a18_0 : List Nat := [0]
abbrev e18_0 (v0 v5 v6 : AV) : Env := [v0, .dead, .dead, .dead, .dead, v5, v6, .dead, .dead, .dead, .dead, .dead, .dead, .dead, .dead, .dead, .dead, .dead, .dead, .dead, .dead, .dead, .dead, .dead, .dead, .dead]
abbrev x18_0 (v0 : AV) : Env := [v0, .dead, .dead, .dead, .dead, .dead, .dead, .dead, .dead, .dead, .dead, .dead, .dead, .dead, .dead, .dead, .dead, .dead, .dead, .dead, .dead, .dead, .dead, .dead, .dead, .dead]
def s18_b0 : SCode :=
  .seq (
    .seq (
      .region [
        ⟨some 14, none, [], .p (.mv (.t 6))⟩,
        ⟨some 15, none, [], .p (.mv (.t 5))⟩,
        ⟨some 16, none, [], .p (.bin .lss (.t 14) (.t 15))⟩]) (
    .cond (.t 16) (
      .skip) (
      .exit 0))) (
  .seq (
    .block 1 (
      .seq (
        .region [
          ⟨some 19, none, [], .p (.mv (.t 0))⟩,
          ⟨some 20, none, [], .p (.bin .quo (.t 19) (.c (u32 2147483648#32)))⟩,
          ⟨some 7, none, [], .p (.mv (.t 20))⟩]) (
      .region [
        ⟨some 21, none, [], .p (.mv (.t 0))⟩,
        ⟨some 22, none, [], .p (.bin .mul (.t 21) (.c (u32 2#32)))⟩,
        ⟨some 23, none, [], .p (.mv (.t 7))⟩,
        ⟨some 24, none, [], .p (.bin .add (.t 22) (.t 23))⟩,
        ⟨some 0, none, [], .p (.mv (.t 24))⟩]))) (
  .region [
    ⟨some 17, none, [], .p (.mv (.t 6))⟩,
    ⟨some 18, none, [], .p (.bin .add (.t 17) (.c (.int .i64 1)))⟩,
    ⟨some 6, none, [], .p (.mv (.t 18))⟩]))

def s18 : SFunc := ⟨
  .seq (
    .region [
      ⟨some 4, none, [], .p (.mv (.c (u32 0#32)))⟩]) (
  .seq (
    .region [
      ⟨some 8, none, [], .p (.mv (.t 1))⟩,
      ⟨some 9, none, [], .p (.bin .rem (.t 8) (.c (.int .i64 32)))⟩,
      ⟨some 5, none, [], .p (.mv (.t 9))⟩]) (
  .seq (
    .seq (
      .region [
        ⟨some 10, none, [], .p (.mv (.t 5))⟩,
        ⟨some 11, none, [], .p (.bin .lss (.t 10) (.c (.int .i64 0)))⟩]) (
    .cond (.t 11) (
      .region [
        ⟨some 12, none, [], .p (.mv (.t 5))⟩,
        ⟨some 13, none, [], .p (.bin .add (.t 12) (.c (.int .i64 32)))⟩,
        ⟨some 5, none, [], .p (.mv (.t 13))⟩]) (
      .skip))) (
  .seq (
    .seq (
      .region [
        ⟨some 6, none, [], .p (.mv (.c (.int .i64 0)))⟩]) (
    .block 0 (
      .loop k18_0 a18_0 s18_b0))) (
  .seq (
    .region [
      ⟨some 25, none, [], .p (.mv (.t 0))⟩,
      ⟨some 4, none, [], .p (.mv (.t 25))⟩]) (
  .ret))))),
  26, [Sum.inl 4]⟩


-- 19 calls [17]
def s19 (n17 : Nat) : SFunc := ⟨
  .seq (
    .region [
      ⟨some 4, none, [], .p (.mv (.c (u32 0#32)))⟩]) (
  .seq (
    .region [
      ⟨some 5, none, [], .p (.mv (.t 0))⟩,
      ⟨some 6, none, [], .p (.mv (.t 1))⟩,
      ⟨some 7, none, [], .p (.conv .u64 (.t 6))⟩,
      ⟨some 8, none, [], .p (.bin .rem (.t 7) (.c (u64 32#64)))⟩,
      ⟨some 9, none, [], .p (.conv .i64 (.t 8))⟩,
      ⟨some 10, none, [], .p (.bin .sub (.c (.int .i64 32)) (.t 9))⟩,
      ⟨some 11, none, [], .call 4024 4 true (.f n17) [.t 5, .t 10]⟩,
      ⟨some 4, none, [], .p (.mv (.t 11))⟩]) (
  .ret)),
  12, [Sum.inl 4]⟩


-- 20 calls []
abbrev k20_0 : List Nat := [0, 5, 6]
abbrev a20_0 : List Nat := [0]
abbrev e20_0 (v0 v5 v6 : AV) : Env := [v0, .dead, .dead, .dead, .dead, v5, v6, .dead, .dead, .dead, .dead, .dead, .dead, .dead, .dead, .dead, .dead, .dead, .dead, .dead, .dead, .dead, .dead, .dead, .dead, .dead, .dead]
abbrev x20_0 (v0 : AV) : Env := [v0, .dead, .dead, .dead, .dead, .dead, .dead, .dead, .dead, .dead, .dead, .dead, .dead, .dead, .dead, .dead, .dead, .dead, .dead, .dead, .dead, .dead, .dead, .dead, .dead, .dead, .dead]
def s20_b0 : SCode :=
  .seq (
    .seq (
      .region [
        ⟨some 14, none, [], .p (.mv (.t 6))⟩,
        ⟨some 15, none, [], .p (.mv (.t 5))⟩,
        ⟨some 16, none, [], .p (.bin .lss (.t 14) (.t 15))⟩]) (
    .cond (.t 16) (
      .skip) (
      .exit 0))) (
  .seq (
    .block 1 (
      .seq (
        .region [
          ⟨some 19, none, [], .p (.mv (.t 0))⟩,
          ⟨some 20, none, [], .p (.bin .rem (.t 19) (.c (u32 2#32)))⟩,
          ⟨some 7, none, [], .p (.mv (.t 20))⟩]) (
      .region [
        ⟨some 21, none, [], .p (.mv (.t 0))⟩,
        ⟨some 22, none, [], .p (.bin .quo (.t 21) (.c (u32 2#32)))⟩,
        ⟨some 23, none, [], .p (.mv (.t 7))⟩,
        ⟨some 24, none, [], .p (.bin .mul (.t 23) (.c (u32 2147483648#32)))⟩,
        ⟨some 25, none, [], .p (.bin .add (.t 22) (.t 24))⟩,
        ⟨some 0, none, [], .p (.mv (.t 25))⟩]))) (
  .region [
    ⟨some 17, none, [], .p (.mv (.t 6))⟩,
    ⟨some 18, none, [], .p (.bin .add (.t 17) (.c (.int .i64 1)))⟩,
    ⟨some 6, none, [], .p (.mv (.t 18))⟩]))

def s20 : SFunc := ⟨
  .seq (
    .region [
      ⟨some 4, none, [], .p (.mv (.c (u32 0#32)))⟩]) (
  .seq (
    .region [
      ⟨some 8, none, [], .p (.mv (.t 1))⟩,
      ⟨some 9, none, [], .p (.bin .rem (.t 8) (.c (.int .i64 32)))⟩,
      ⟨some 5, none, [], .p (.mv (.t 9))⟩]) (
  .seq (
    .seq (
      .region [
        ⟨some 10, none, [], .p (.mv (.t 5))⟩,
        ⟨some 11, none, [], .p (.bin .lss (.t 10) (.c (.int .i64 0)))⟩]) (
    .cond (.t 11) (
      .region [
        ⟨some 12, none, [], .p (.mv (.t 5))⟩,
        ⟨some 13, none, [], .p (.bin .add (.t 12) (.c (.int .i64 32)))⟩,
        ⟨some 5, none, [], .p (.mv (.t 13))⟩]) (
      .skip))) (
  .seq (
    .seq (
      .region [
        ⟨some 6, none, [], .p (.mv (.c (.int .i64 0)))⟩]) (
    .block 0 (
      .loop k20_0 a20_0 s20_b0))) (
  .seq (
    .region [
      ⟨some 26, none, [], .p (.mv (.t 0))⟩,
      ⟨some 4, none, [], .p (.mv (.t 26))⟩]) (
  .ret))))),
  27, [Sum.inl 4]⟩


-- 25 calls []
abbrev k25_0 : List Nat := [0, 1, 6, 17, 18]
abbrev a25_0 : List Nat := [6]
abbrev e25_0 (v0 v1 v6 v17 v18 : AV) : Env := [v0, v1, .dead, .dead, .dead, .dead, v6, .dead, .dead, .dead, .dead, .dead, .dead, .dead, .dead, .dead, .dead, v17, v18, .dead, .dead, .dead, .dead, .dead, .dead, .dead, .dead, .dead, .dead, .dead, .dead, .dead, .dead, .dead, .dead, .dead, .dead, .dead, .dead, .dead, .dead, .dead, .dead, .dead, .dead, .dead, .dead, .dead, .dead, .dead, .dead]
abbrev x25_0 (v6 : AV) : Env := [.dead, .dead, .dead, .dead, .dead, .dead, v6, .dead, .dead, .dead, .dead, .dead, .dead, .dead, .dead, .dead, .dead, .dead, .dead, .dead, .dead, .dead, .dead, .dead, .dead, .dead, .dead, .dead, .dead, .dead, .dead, .dead, .dead, .dead, .dead, .dead, .dead, .dead, .dead, .dead, .dead, .dead, .dead, .dead, .dead, .dead, .dead, .dead, .dead, .dead, .dead]
def s25_b0 : SCode :=
  .seq (
    .region [
      ⟨some 19, none, [], .p (.bin .lss (.t 18) (.t 17))⟩]) (
  .seq (
    .cond (.t 19) (
      .skip) (
      .exit 0)) (
  .seq (
    .block 1 (
      .seq (
        .region [
          ⟨some 20, none, [], .p (.mv (.t 18))⟩,
          ⟨some 7, none, [], .p (.mv (.t 20))⟩]) (
      .region [
        ⟨some 21, none, [], .p (.mv (.t 6))⟩,
        ⟨some 22, none, [], .p (.mv (.t 7))⟩,
        ⟨some 23, none, [], .p (.mv (.t 1))⟩,
        ⟨some 24, none, [], .p (.mv (.t 0))⟩,
        ⟨some 25, none, [], .p (.mv (.t 7))⟩,
        ⟨some 26, none, [], .p (.bin .mul (.c (.int .i64 4)) (.t 25))⟩,
        ⟨some 27, none, [], .p (.idxStr (.t 24) (.t 26))⟩,
        ⟨some 28, none, [], .p (.conv .u32 (.t 27))⟩,
        ⟨some 29, none, [], .p (.mv (.t 0))⟩,
        ⟨some 30, none, [], .p (.mv (.t 7))⟩,
        ⟨some 31, none, [], .p (.bin .mul (.c (.int .i64 4)) (.t 30))⟩,
        ⟨some 32, none, [], .p (.bin .add (.t 31) (.c (.int .i64 1)))⟩,
        ⟨some 33, none, [], .p (.idxStr (.t 29) (.t 32))⟩,
        ⟨some 34, none, [], .p (.conv .u32 (.t 33))⟩,
        ⟨some 35, none, [], .p (.mv (.t 0))⟩,
        ⟨some 36, none, [], .p (.mv (.t 7))⟩,
        ⟨some 37, none, [], .p (.bin .mul (.c (.int .i64 4)) (.t 36))⟩,
        ⟨some 38, none, [], .p (.bin .add (.t 37) (.c (.int .i64 2)))⟩,
        ⟨some 39, none, [], .p (.idxStr (.t 35) (.t 38))⟩,
        ⟨some 40, none, [], .p (.conv .u32 (.t 39))⟩,
        ⟨some 41, none, [], .p (.mv (.t 0))⟩,
        ⟨some 42, none, [], .p (.mv (.t 7))⟩,
        ⟨some 43, none, [], .p (.bin .mul (.c (.int .i64 4)) (.t 42))⟩,
        ⟨some 44, none, [], .p (.bin .add (.t 43) (.c (.int .i64 3)))⟩,
        ⟨some 45, none, [], .p (.idxStr (.t 41) (.t 44))⟩,
        ⟨some 46, none, [], .p (.conv .u32 (.t 45))⟩,
        ⟨some 47, none, [], .call 28104 4 true (.t 23) [.t 28, .t 34, .t 40, .t 46]⟩,
        ⟨some 48, none, [], .p (.iaddrS 1 (.t 21) (.t 22))⟩,
        ⟨none, none, [], .w (.store1 (.t 48) (.t 47))⟩]))) (
  .region [
    ⟨some 49, none, [], .p (.bin .add (.t 18) (.c (.int .i64 1)))⟩,
    ⟨some 18, none, [], .p (.mv (.t 49))⟩])))

def s25 : SFunc := ⟨
  .seq (
    .region [
      ⟨some 4, none, [], .p (.mv (.c (.slice none 0 0)))⟩,
      ⟨some 5, none, [], .p (.mv (.c (.int .i64 0)))⟩]) (
  .seq (
    .seq (
      .region [
        ⟨some 8, none, [], .p (.mv (.t 0))⟩,
        ⟨some 9, none, [], .p (.lenV false (.t 8))⟩,
        ⟨some 10, none, [], .p (.bin .rem (.t 9) (.c (.int .i64 4)))⟩,
        ⟨some 11, none, [], .p (.bin .neq (.t 10) (.c (.int .i64 0)))⟩]) (
    .cond (.t 11) (
      .seq (
        .region [
          ⟨some 4, none, [], .p (.mv (.c (.slice none 0 0)))⟩,
          ⟨some 5, none, [], .p (.mv (.c (.int .i64 7)))⟩]) (
      .ret)) (
      .skip))) (
  .seq (
    .region [
      ⟨some 12, none, [], .p (.mv (.t 0))⟩,
      ⟨some 13, none, [], .p (.lenV false (.t 12))⟩,
      ⟨some 14, none, [], .p (.bin .quo (.t 13) (.c (.int .i64 4)))⟩,
      ⟨some 15, none, [], .a 12012 (.mkSlice 1 4 [u32 0#32] (.t 14) (.t 14))⟩,
      ⟨some 6, none, [], .p (.mv (.t 15))⟩]) (
  .seq (
    .seq (
      .region [
        ⟨some 16, none, [], .p (.mv (.t 6))⟩,
        ⟨some 17, none, [], .p (.lenV true (.t 16))⟩,
        ⟨some 18, none, [], .p (.mv (.c (.int .i64 0)))⟩]) (
    .block 0 (
      .loop k25_0 a25_0 s25_b0))) (
  .seq (
    .region [
      ⟨some 50, none, [], .p (.mv (.t 6))⟩,
      ⟨some 4, none, [], .p (.mv (.t 50))⟩,
      ⟨some 5, none, [], .p (.mv (.c (.int .i64 0)))⟩]) (
  .ret))))),
  51, [Sum.inl 4, Sum.inl 5]⟩


-- 26 calls []
def s26 : SFunc := ⟨
  .seq (
    .region [
      ⟨some 8, none, [], .p (.mv (.c (u32 0#32)))⟩]) (
  .seq (
    .region [
      ⟨some 9, none, [], .p (.mv (.t 0))⟩,
      ⟨some 10, none, [], .p (.mv (.t 1))⟩,
      ⟨some 11, none, [], .p (.bin .shl (.t 10) (.c (u64 8#64)))⟩,
      ⟨some 12, none, [], .p (.bin .or (.t 9) (.t 11))⟩,
      ⟨some 13, none, [], .p (.mv (.t 2))⟩,
      ⟨some 14, none, [], .p (.bin .shl (.t 13) (.c (u64 16#64)))⟩,
      ⟨some 15, none, [], .p (.bin .or (.t 12) (.t 14))⟩,
      ⟨some 16, none, [], .p (.mv (.t 3))⟩,
      ⟨some 17, none, [], .p (.bin .shl (.t 16) (.c (u64 24#64)))⟩,
      ⟨some 18, none, [], .p (.bin .or (.t 15) (.t 17))⟩,
      ⟨some 8, none, [], .p (.mv (.t 18))⟩]) (
  .ret)),
  19, [Sum.inl 8]⟩


-- 27 calls []
def s27 : SFunc := ⟨
  .seq (
    .region [
      ⟨some 8, none, [], .p (.mv (.c (u32 0#32)))⟩]) (
  .seq (
    .region [
      ⟨some 9, none, [], .p (.mv (.t 0))⟩,
      ⟨some 10, none, [], .p (.bin .shl (.t 9) (.c (u64 24#64)))⟩,
      ⟨some 11, none, [], .p (.mv (.t 1))⟩,
      ⟨some 12, none, [], .p (.bin .shl (.t 11) (.c (u64 16#64)))⟩,
      ⟨some 13, none, [], .p (.bin .or (.t 10) (.t 12))⟩,
      ⟨some 14, none, [], .p (.mv (.t 2))⟩,
      ⟨some 15, none, [], .p (.bin .shl (.t 14) (.c (u64 8#64)))⟩,
      ⟨some 16, none, [], .p (.bin .or (.t 13) (.t 15))⟩,
      ⟨some 17, none, [], .p (.mv (.t 3))⟩,
      ⟨some 18, none, [], .p (.bin .or (.t 16) (.t 17))⟩,
      ⟨some 8, none, [], .p (.mv (.t 18))⟩]) (
  .ret)),
  19, [Sum.inl 8]⟩


-- 12 calls [25, 26]
def s12 (n25 n26 : Nat) : SFunc := ⟨
  .seq (
    .region [
      ⟨some 2, none, [], .p (.mv (.c (.slice none 0 0)))⟩,
      ⟨some 3, none, [], .p (.mv (.c (.int .i64 0)))⟩]) (
  .seq (
    .region [
      ⟨some 4, none, [], .p (.mv (.t 0))⟩,
      ⟨some 5, none, [], .call 4004 4 true (.f n25) [.t 4, .f n26]⟩,
      ⟨some 6, none, [], .p (.extract (.t 5) 0)⟩,
      ⟨some 7, none, [], .p (.extract (.t 5) 1)⟩,
      ⟨some 2, none, [], .p (.mv (.t 6))⟩,
      ⟨some 3, none, [], .p (.mv (.t 7))⟩]) (
  .ret)),
  8, [Sum.inl 2, Sum.inl 3]⟩


-- 14 calls [25, 27]
def s14 (n25 n27 : Nat) : SFunc := ⟨
  .seq (
    .region [
      ⟨some 2, none, [], .p (.mv (.c (.slice none 0 0)))⟩,
      ⟨some 3, none, [], .p (.mv (.c (.int .i64 0)))⟩]) (
  .seq (
    .region [
      ⟨some 4, none, [], .p (.mv (.t 0))⟩,
      ⟨some 5, none, [], .call 4004 4 true (.f n25) [.t 4, .f n27]⟩,
      ⟨some 6, none, [], .p (.extract (.t 5) 0)⟩,
      ⟨some 7, none, [], .p (.extract (.t 5) 1)⟩,
      ⟨some 2, none, [], .p (.mv (.t 6))⟩,
      ⟨some 3, none, [], .p (.mv (.t 7))⟩]) (
  .ret)),
  8, [Sum.inl 2, Sum.inl 3]⟩


-- 13 calls []
abbrev k13_1 : List Nat := [0, 1, 6, 7, 8, 9]
abbrev a13_1 : List Nat := [0, 1, 6, 7, 8]
abbrev e13_1 (v0 v1 v6 v7 v8 v9 : AV) : Env := [v0, v1, .dead, .dead, .dead, .dead, v6, v7, v8, v9, .dead, .dead, .dead, .dead, .dead, .dead, .dead, .dead, .dead, .dead, .dead, .dead, .dead, .dead, .dead, .dead, .dead, .dead, .dead, .dead, .dead, .dead, .dead, .dead, .dead, .dead, .dead, .dead, .dead, .dead, .dead, .dead, .dead, .dead, .dead]
abbrev x13_1 (v0 v1 v6 v7 v8 : AV) : Env := [v0, v1, .dead, .dead, .dead, .dead, v6, v7, v8, .dead, .dead, .dead, .dead, .dead, .dead, .dead, .dead, .dead, .dead, .dead, .dead, .dead, .dead, .dead, .dead, .dead, .dead, .dead, .dead, .dead, .dead, .dead, .dead, .dead, .dead, .dead, .dead, .dead, .dead, .dead, .dead, .dead, .dead, .dead, .dead]
def s13_b1 : SCode :=
  .seq (
    .seq (
      .region [
        ⟨some 21, none, [], .p (.mv (.t 9))⟩,
        ⟨some 22, none, [], .p (.bin .lss (.t 21) (.c (.int .i64 4)))⟩]) (
    .cond (.t 22) (
      .skip) (
      .exit 2))) (
  .seq (
    .block 3 (
      .seq (
        .region [
          ⟨some 25, none, [], .p (.mv (.t 7))⟩,
          ⟨some 26, none, [], .p (.bin .add (.t 25) (.c (.int .i64 3)))⟩,
          ⟨some 27, none, [], .p (.mv (.t 9))⟩,
          ⟨some 28, none, [], .p (.bin .sub (.t 26) (.t 27))⟩,
          ⟨some 10, none, [], .p (.mv (.t 28))⟩]) (
      .seq (
        .seq (
          .region [
            ⟨some 29, none, [], .p (.mv (.t 1))⟩]) (
        .cond (.t 29) (
          .region [
            ⟨some 30, none, [], .p (.mv (.t 7))⟩,
            ⟨some 31, none, [], .p (.mv (.t 9))⟩,
            ⟨some 32, none, [], .p (.bin .add (.t 30) (.t 31))⟩,
            ⟨some 10, none, [], .p (.mv (.t 32))⟩]) (
          .skip))) (
      .region [
        ⟨some 33, none, [], .p (.mv (.t 8))⟩,
        ⟨some 34, none, [], .p (.bin .mul (.c (u32 256#32)) (.t 33))⟩,
        ⟨some 35, none, [], .p (.mv (.t 0))⟩,
        ⟨some 36, none, [], .p (.mv (.t 10))⟩,
        ⟨some 37, none, [], .p (.idxStr (.t 35) (.t 36))⟩,
        ⟨some 38, none, [], .p (.conv .u32 (.t 37))⟩,
        ⟨some 39, none, [], .p (.bin .add (.t 34) (.t 38))⟩,
        ⟨some 8, none, [], .p (.mv (.t 39))⟩])))) (
  .region [
    ⟨some 23, none, [], .p (.mv (.t 9))⟩,
    ⟨some 24, none, [], .p (.bin .add (.t 23) (.c (.int .i64 1)))⟩,
    ⟨some 9, none, [], .p (.mv (.t 24))⟩]))

abbrev k13_0 : List Nat := [0, 1, 6, 7]
abbrev a13_0 : List Nat := [6]
abbrev e13_0 (v0 v1 v6 v7 : AV) : Env := [v0, v1, .dead, .dead, .dead, .dead, v6, v7, .dead, .dead, .dead, .dead, .dead, .dead, .dead, .dead, .dead, .dead, .dead, .dead, .dead, .dead, .dead, .dead, .dead, .dead, .dead, .dead, .dead, .dead, .dead, .dead, .dead, .dead, .dead, .dead, .dead, .dead, .dead, .dead, .dead, .dead, .dead, .dead, .dead]
abbrev x13_0 (v6 : AV) : Env := [.dead, .dead, .dead, .dead, .dead, .dead, v6, .dead, .dead, .dead, .dead, .dead, .dead, .dead, .dead, .dead, .dead, .dead, .dead, .dead, .dead, .dead, .dead, .dead, .dead, .dead, .dead, .dead, .dead, .dead, .dead, .dead, .dead, .dead, .dead, .dead, .dead, .dead, .dead, .dead, .dead, .dead, .dead, .dead, .dead]
def s13_b0 : SCode :=
  .seq (
    .seq (
      .region [
        ⟨some 15, none, [], .p (.mv (.t 7))⟩,
        ⟨some 16, none, [], .p (.mv (.t 0))⟩,
        ⟨some 17, none, [], .p (.lenV false (.t 16))⟩,
        ⟨some 18, none, [], .p (.bin .lss (.t 15) (.t 17))⟩]) (
    .cond (.t 18) (
      .skip) (
      .exit 0))) (
  .seq (
    .block 1 (
      .seq (
        .region [
          ⟨some 8, none, [], .p (.mv (.c (u32 0#32)))⟩]) (
      .seq (
        .seq (
          .region [
            ⟨some 9, none, [], .p (.mv (.c (.int .i64 0)))⟩]) (
        .block 2 (
          .loop k13_1 a13_1 s13_b1))) (
      .region [
        ⟨some 40, none, [], .p (.mv (.t 6))⟩,
        ⟨some 41, none, [], .p (.mv (.t 8))⟩,
        ⟨some 42, none, [], .a 60008 (.buildS 1 1 [u32 0#32] [(0, 1, .t 41)])⟩,
        ⟨some 43, none, [], .w (.append 60012 1 4 (.t 40) (.t 42))⟩,
        ⟨some 6, none, [], .p (.mv (.t 43))⟩])))) (
  .region [
    ⟨some 19, none, [], .p (.mv (.t 7))⟩,
    ⟨some 20, none, [], .p (.bin .add (.t 19) (.c (.int .i64 4)))⟩,
    ⟨some 7, none, [], .p (.mv (.t 20))⟩]))

def s13 : SFunc := ⟨
  .seq (
    .region [
      ⟨some 4, none, [], .p (.mv (.c (.slice none 0 0)))⟩,
      ⟨some 5, none, [], .p (.mv (.c (.int .i64 0)))⟩]) (
  .seq (
    .seq (
      .region [
        ⟨some 11, none, [], .p (.mv (.t 0))⟩,
        ⟨some 12, none, [], .p (.lenV false (.t 11))⟩,
        ⟨some 13, none, [], .p (.bin .rem (.t 12) (.c (.int .i64 4)))⟩,
        ⟨some 14, none, [], .p (.bin .neq (.t 13) (.c (.int .i64 0)))⟩]) (
    .cond (.t 14) (
      .seq (
        .region [
          ⟨some 4, none, [], .p (.mv (.c (.slice none 0 0)))⟩,
          ⟨some 5, none, [], .p (.mv (.c (.int .i64 7)))⟩]) (
      .ret)) (
      .skip))) (
  .seq (
    .region [
      ⟨some 6, none, [], .p (.mv (.c (.slice none 0 0)))⟩]) (
  .seq (
    .seq (
      .region [
        ⟨some 7, none, [], .p (.mv (.c (.int .i64 0)))⟩]) (
    .block 0 (
      .loop k13_0 a13_0 s13_b0))) (
  .seq (
    .region [
      ⟨some 44, none, [], .p (.mv (.t 6))⟩,
      ⟨some 4, none, [], .p (.mv (.t 44))⟩,
      ⟨some 5, none, [], .p (.mv (.c (.int .i64 0)))⟩]) (
  .ret))))),
  45, [Sum.inl 4, Sum.inl 5]⟩


-- 21 calls []
abbrev k21_0 : List Nat := [3, 10, 11, 12]
abbrev a21_0 : List Nat := [3]
abbrev e21_0 (v3 v10 v11 v12 : AV) : Env := [.dead, .dead, .dead, v3, .dead, .dead, .dead, .dead, .dead, .dead, v10, v11, v12, .dead, .dead, .dead, .dead, .dead, .dead, .dead, .dead, .dead, .dead, .dead, .dead, .dead, .dead, .dead, .dead, .dead, .dead, .dead, .dead]
abbrev x21_0 (v3 : AV) : Env := [.dead, .dead, .dead, v3, .dead, .dead, .dead, .dead, .dead, .dead, .dead, .dead, .dead, .dead, .dead, .dead, .dead, .dead, .dead, .dead, .dead, .dead, .dead, .dead, .dead, .dead, .dead, .dead, .dead, .dead, .dead, .dead, .dead]
def s21_b0 : SCode :=
  .seq (
    .region [
      ⟨some 13, none, [], .p (.bin .lss (.t 12) (.t 11))⟩]) (
  .seq (
    .cond (.t 13) (
      .skip) (
      .exit 0)) (
  .seq (
    .block 1 (
      .seq (
        .region [
          ⟨some 14, none, [], .p (.iaddrS 1 (.t 10) (.t 12))⟩,
          ⟨some 15, none, [], .r (.load1 (.t 14))⟩,
          ⟨some 5, none, [], .p (.mv (.t 15))⟩]) (
      .region [
        ⟨some 16, none, [], .p (.mv (.t 3))⟩,
        ⟨some 17, none, [], .p (.mv (.t 5))⟩,
        ⟨some 18, none, [], .p (.conv .u8 (.t 17))⟩,
        ⟨some 19, none, [], .p (.mv (.t 5))⟩,
        ⟨some 20, none, [], .p (.bin .shr (.t 19) (.c (u64 8#64)))⟩,
        ⟨some 21, none, [], .p (.conv .u8 (.t 20))⟩,
        ⟨some 22, none, [], .p (.mv (.t 5))⟩,
        ⟨some 23, none, [], .p (.bin .shr (.t 22) (.c (u64 16#64)))⟩,
        ⟨some 24, none, [], .p (.conv .u8 (.t 23))⟩,
        ⟨some 25, none, [], .p (.mv (.t 5))⟩,
        ⟨some 26, none, [], .p (.bin .shr (.t 25) (.c (u64 24#64)))⟩,
        ⟨some 27, none, [], .p (.conv .u8 (.t 26))⟩,
        ⟨some 28, none, [], .a 20048 (.buildS 1 4 [byteAV 0] [(0, 1, .t 18), (1, 1, .t 21), (2, 1, .t 24), (3, 1, .t 27)])⟩,
        ⟨some 29, none, [], .w (.append 20052 1 1 (.t 16) (.t 28))⟩,
        ⟨some 3, none, [], .p (.mv (.t 29))⟩]))) (
  .region [
    ⟨some 30, none, [], .p (.bin .add (.t 12) (.c (.int .i64 1)))⟩,
    ⟨some 12, none, [], .p (.mv (.t 30))⟩])))

def s21 : SFunc := ⟨
  .seq (
    .region [
      ⟨some 2, none, [], .p (.mv (.c (.str [])))⟩]) (
  .seq (
    .region [
      ⟨some 6, none, [], .p (.mv (.t 0))⟩,
      ⟨some 7, none, [], .p (.lenV true (.t 6))⟩,
      ⟨some 8, none, [], .p (.bin .mul (.c (.int .i64 4)) (.t 7))⟩,
      ⟨some 9, none, [], .a 4012 (.mkSlice 1 1 [byteAV 0] (.c (.int .i64 0)) (.t 8))⟩,
      ⟨some 3, none, [], .p (.mv (.t 9))⟩]) (
  .seq (
    .seq (
      .region [
        ⟨some 10, none, [], .p (.mv (.t 0))⟩,
        ⟨some 11, none, [], .p (.lenV true (.t 10))⟩,
        ⟨some 12, none, [], .p (.mv (.c (.int .i64 0)))⟩]) (
    .block 0 (
      .loop k21_0 a21_0 s21_b0))) (
  .seq (
    .region [
      ⟨some 31, none, [], .p (.mv (.t 3))⟩,
      ⟨some 32, none, [], .r (.toStr (.t 31))⟩,
      ⟨some 2, none, [], .p (.mv (.t 32))⟩]) (
  .ret)))),
  33, [Sum.inl 2]⟩


-- 23 calls []
abbrev k23_0 : List Nat := [3, 10, 11, 12]
abbrev a23_0 : List Nat := [3]
abbrev e23_0 (v3 v10 v11 v12 : AV) : Env := [.dead, .dead, .dead, v3, .dead, .dead, .dead, .dead, .dead, .dead, v10, v11, v12, .dead, .dead, .dead, .dead, .dead, .dead, .dead, .dead, .dead, .dead, .dead, .dead, .dead, .dead, .dead, .dead, .dead, .dead, .dead, .dead]
abbrev x23_0 (v3 : AV) : Env := [.dead, .dead, .dead, v3, .dead, .dead, .dead, .dead, .dead, .dead, .dead, .dead, .dead, .dead, .dead, .dead, .dead, .dead, .dead, .dead, .dead, .dead, .dead, .dead, .dead, .dead, .dead, .dead, .dead, .dead, .dead, .dead, .dead]
def s23_b0 : SCode :=
  .seq (
    .region [
      ⟨some 13, none, [], .p (.bin .lss (.t 12) (.t 11))⟩]) (
  .seq (
    .cond (.t 13) (
      .skip) (
      .exit 0)) (
  .seq (
    .block 1 (
      .seq (
        .region [
          ⟨some 14, none, [], .p (.iaddrS 1 (.t 10) (.t 12))⟩,
          ⟨some 15, none, [], .r (.load1 (.t 14))⟩,
          ⟨some 5, none, [], .p (.mv (.t 15))⟩]) (
      .region [
        ⟨some 16, none, [], .p (.mv (.t 3))⟩,
        ⟨some 17, none, [], .p (.mv (.t 5))⟩,
        ⟨some 18, none, [], .p (.bin .shr (.t 17) (.c (u64 24#64)))⟩,
        ⟨some 19, none, [], .p (.conv .u8 (.t 18))⟩,
        ⟨some 20, none, [], .p (.mv (.t 5))⟩,
        ⟨some 21, none, [], .p (.bin .shr (.t 20) (.c (u64 16#64)))⟩,
        ⟨some 22, none, [], .p (.conv .u8 (.t 21))⟩,
        ⟨some 23, none, [], .p (.mv (.t 5))⟩,
        ⟨some 24, none, [], .p (.bin .shr (.t 23) (.c (u64 8#64)))⟩,
        ⟨some 25, none, [], .p (.conv .u8 (.t 24))⟩,
        ⟨some 26, none, [], .p (.mv (.t 5))⟩,
        ⟨some 27, none, [], .p (.conv .u8 (.t 26))⟩,
        ⟨some 28, none, [], .a 20048 (.buildS 1 4 [byteAV 0] [(0, 1, .t 19), (1, 1, .t 22), (2, 1, .t 25), (3, 1, .t 27)])⟩,
        ⟨some 29, none, [], .w (.append 20052 1 1 (.t 16) (.t 28))⟩,
        ⟨some 3, none, [], .p (.mv (.t 29))⟩]))) (
  .region [
    ⟨some 30, none, [], .p (.bin .add (.t 12) (.c (.int .i64 1)))⟩,
    ⟨some 12, none, [], .p (.mv (.t 30))⟩])))

def s23 : SFunc := ⟨
  .seq (
    .region [
      ⟨some 2, none, [], .p (.mv (.c (.str [])))⟩]) (
  .seq (
    .region [
      ⟨some 6, none, [], .p (.mv (.t 0))⟩,
      ⟨some 7, none, [], .p (.lenV true (.t 6))⟩,
      ⟨some 8, none, [], .p (.bin .mul (.c (.int .i64 4)) (.t 7))⟩,
      ⟨some 9, none, [], .a 4012 (.mkSlice 1 1 [byteAV 0] (.c (.int .i64 0)) (.t 8))⟩,
      ⟨some 3, none, [], .p (.mv (.t 9))⟩]) (
  .seq (
    .seq (
      .region [
        ⟨some 10, none, [], .p (.mv (.t 0))⟩,
        ⟨some 11, none, [], .p (.lenV true (.t 10))⟩,
        ⟨some 12, none, [], .p (.mv (.c (.int .i64 0)))⟩]) (
    .block 0 (
      .loop k23_0 a23_0 s23_b0))) (
  .seq (
    .region [
      ⟨some 31, none, [], .p (.mv (.t 3))⟩,
      ⟨some 32, none, [], .r (.toStr (.t 31))⟩,
      ⟨some 2, none, [], .p (.mv (.t 32))⟩]) (
  .ret)))),
  33, [Sum.inl 2]⟩


-- 22 calls []
abbrev k22_2 : List Nat := [0, 1, 5, 6, 7, 11]
abbrev a22_2 : List Nat := [0, 1, 5, 6]
abbrev e22_2 (v0 v1 v5 v6 v7 v11 : AV) : Env := [v0, v1, .dead, .dead, .dead, v5, v6, v7, .dead, .dead, .dead, v11, .dead, .dead, .dead, .dead, .dead, .dead, .dead, .dead, .dead, .dead, .dead, .dead, .dead, .dead, .dead, .dead, .dead, .dead, .dead, .dead, .dead, .dead, .dead, .dead, .dead, .dead, .dead, .dead, .dead, .dead, .dead, .dead, .dead, .dead, .dead, .dead, .dead]
abbrev x22_2 (v0 v1 v5 v6 : AV) : Env := [v0, v1, .dead, .dead, .dead, v5, v6, .dead, .dead, .dead, .dead, .dead, .dead, .dead, .dead, .dead, .dead, .dead, .dead, .dead, .dead, .dead, .dead, .dead, .dead, .dead, .dead, .dead, .dead, .dead, .dead, .dead, .dead, .dead, .dead, .dead, .dead, .dead, .dead, .dead, .dead, .dead, .dead, .dead, .dead, .dead, .dead, .dead, .dead]
def s22_b2 : SCode :=
  .seq (
    .seq (
      .region [
        ⟨some 37, none, [], .p (.mv (.t 11))⟩,
        ⟨some 38, none, [], .p (.bin .lss (.t 37) (.c (.int .i64 4)))⟩]) (
    .cond (.t 38) (
      .skip) (
      .exit 4))) (
  .seq (
    .block 5 (
      .region [
        ⟨some 41, none, [], .p (.mv (.t 5))⟩,
        ⟨some 42, none, [], .p (.mv (.t 11))⟩,
        ⟨some 43, none, [], .p (.iaddrA 4 1 (.t 7) (.t 42))⟩,
        ⟨some 44, none, [], .r (.load1 (.t 43))⟩,
        ⟨some 45, none, [], .a 72016 (.buildS 1 1 [byteAV 0] [(0, 1, .t 44)])⟩,
        ⟨some 46, none, [], .w (.append 72020 1 1 (.t 41) (.t 45))⟩,
        ⟨some 5, none, [], .p (.mv (.t 46))⟩])) (
  .region [
    ⟨some 39, none, [], .p (.mv (.t 11))⟩,
    ⟨some 40, none, [], .p (.bin .add (.t 39) (.c (.int .i64 1)))⟩,
    ⟨some 11, none, [], .p (.mv (.t 40))⟩]))

abbrev k22_1 : List Nat := [0, 1, 5, 6, 7, 8, 9]
abbrev a22_1 : List Nat := [0, 1, 5, 6, 7]
abbrev e22_1 (v0 v1 v5 v6 v7 v8 v9 : AV) : Env := [v0, v1, .dead, .dead, .dead, v5, v6, v7, v8, v9, .dead, .dead, .dead, .dead, .dead, .dead, .dead, .dead, .dead, .dead, .dead, .dead, .dead, .dead, .dead, .dead, .dead, .dead, .dead, .dead, .dead, .dead, .dead, .dead, .dead, .dead, .dead, .dead, .dead, .dead, .dead, .dead, .dead, .dead, .dead, .dead, .dead, .dead, .dead]
abbrev x22_1 (v0 v1 v5 v6 v7 : AV) : Env := [v0, v1, .dead, .dead, .dead, v5, v6, v7, .dead, .dead, .dead, .dead, .dead, .dead, .dead, .dead, .dead, .dead, .dead, .dead, .dead, .dead, .dead, .dead, .dead, .dead, .dead, .dead, .dead, .dead, .dead, .dead, .dead, .dead, .dead, .dead, .dead, .dead, .dead, .dead, .dead, .dead, .dead, .dead, .dead, .dead, .dead, .dead, .dead]
def s22_b1 : SCode :=
  .seq (
    .seq (
      .region [
        ⟨some 22, none, [], .p (.mv (.t 9))⟩,
        ⟨some 23, none, [], .p (.bin .lss (.t 22) (.c (.int .i64 4)))⟩]) (
    .cond (.t 23) (
      .skip) (
      .exit 2))) (
  .seq (
    .block 3 (
      .seq (
        .region [
          ⟨some 26, none, [], .p (.mv (.t 9))⟩,
          ⟨some 10, none, [], .p (.mv (.t 26))⟩]) (
      .seq (
        .seq (
          .region [
            ⟨some 27, none, [], .p (.mv (.t 1))⟩]) (
        .cond (.t 27) (
          .region [
            ⟨some 28, none, [], .p (.mv (.t 9))⟩,
            ⟨some 29, none, [], .p (.bin .sub (.c (.int .i64 3)) (.t 28))⟩,
            ⟨some 10, none, [], .p (.mv (.t 29))⟩]) (
          .skip))) (
      .seq (
        .region [
          ⟨some 30, none, [], .p (.mv (.t 10))⟩,
          ⟨some 31, none, [], .p (.mv (.t 8))⟩,
          ⟨some 32, none, [], .p (.bin .rem (.t 31) (.c (u32 256#32)))⟩,
          ⟨some 33, none, [], .p (.conv .u8 (.t 32))⟩,
          ⟨some 34, none, [], .p (.iaddrA 4 1 (.t 7) (.t 30))⟩,
          ⟨none, none, [], .w (.store1 (.t 34) (.t 33))⟩]) (
      .region [
        ⟨some 35, none, [], .p (.mv (.t 8))⟩,
        ⟨some 36, none, [], .p (.bin .quo (.t 35) (.c (u32 256#32)))⟩,
        ⟨some 8, none, [], .p (.mv (.t 36))⟩]))))) (
  .region [
    ⟨some 24, none, [], .p (.mv (.t 9))⟩,
    ⟨some 25, none, [], .p (.bin .add (.t 24) (.c (.int .i64 1)))⟩,
    ⟨some 9, none, [], .p (.mv (.t 25))⟩]))

abbrev k22_0 : List Nat := [0, 1, 5, 6]
abbrev a22_0 : List Nat := [5]
abbrev e22_0 (v0 v1 v5 v6 : AV) : Env := [v0, v1, .dead, .dead, .dead, v5, v6, .dead, .dead, .dead, .dead, .dead, .dead, .dead, .dead, .dead, .dead, .dead, .dead, .dead, .dead, .dead, .dead, .dead, .dead, .dead, .dead, .dead, .dead, .dead, .dead, .dead, .dead, .dead, .dead, .dead, .dead, .dead, .dead, .dead, .dead, .dead, .dead, .dead, .dead, .dead, .dead, .dead, .dead]
abbrev x22_0 (v5 : AV) : Env := [.dead, .dead, .dead, .dead, .dead, v5, .dead, .dead, .dead, .dead, .dead, .dead, .dead, .dead, .dead, .dead, .dead, .dead, .dead, .dead, .dead, .dead, .dead, .dead, .dead, .dead, .dead, .dead, .dead, .dead, .dead, .dead, .dead, .dead, .dead, .dead, .dead, .dead, .dead, .dead, .dead, .dead, .dead, .dead, .dead, .dead, .dead, .dead, .dead]
def s22_b0 : SCode :=
  .seq (
    .seq (
      .region [
        ⟨some 12, none, [], .p (.mv (.t 6))⟩,
        ⟨some 13, none, [], .p (.mv (.t 0))⟩,
        ⟨some 14, none, [], .p (.lenV true (.t 13))⟩,
        ⟨some 15, none, [], .p (.bin .lss (.t 12) (.t 14))⟩]) (
    .cond (.t 15) (
      .skip) (
      .exit 0))) (
  .seq (
    .block 1 (
      .seq (
        .region [
          ⟨some 7, none, [], .a 20000 (.alloc [byteAV 0, byteAV 0, byteAV 0, byteAV 0])⟩]) (
      .seq (
        .region [
          ⟨some 18, none, [], .p (.mv (.t 0))⟩,
          ⟨some 19, none, [], .p (.mv (.t 6))⟩,
          ⟨some 20, none, [], .p (.iaddrS 1 (.t 18) (.t 19))⟩,
          ⟨some 21, none, [], .r (.load1 (.t 20))⟩,
          ⟨some 8, none, [], .p (.mv (.t 21))⟩]) (
      .seq (
        .seq (
          .region [
            ⟨some 9, none, [], .p (.mv (.c (.int .i64 0)))⟩]) (
        .block 2 (
          .loop k22_1 a22_1 s22_b1))) (
      .seq (
        .region [
          ⟨some 11, none, [], .p (.mv (.c (.int .i64 0)))⟩]) (
      .block 4 (
        .loop k22_2 a22_2 s22_b2))))))) (
  .region [
    ⟨some 16, none, [], .p (.mv (.t 6))⟩,
    ⟨some 17, none, [], .p (.bin .add (.t 16) (.c (.int .i64 1)))⟩,
    ⟨some 6, none, [], .p (.mv (.t 17))⟩]))

def s22 : SFunc := ⟨
  .seq (
    .region [
      ⟨some 4, none, [], .p (.mv (.c (.str [])))⟩]) (
  .seq (
    .region [
      ⟨some 5, none, [], .p (.mv (.c (.slice none 0 0)))⟩]) (
  .seq (
    .seq (
      .region [
        ⟨some 6, none, [], .p (.mv (.c (.int .i64 0)))⟩]) (
    .block 0 (
      .loop k22_0 a22_0 s22_b0))) (
  .seq (
    .region [
      ⟨some 47, none, [], .p (.mv (.t 5))⟩,
      ⟨some 48, none, [], .r (.toStr (.t 47))⟩,
      ⟨some 4, none, [], .p (.mv (.t 48))⟩]) (
  .ret)))),
  49, [Sum.inl 4]⟩



/-- The combined text, as far as i. -/
def xs (a b : List UInt8) (n i : Nat) : List UInt8 := (List.range n).map fun k => if k < i then nth a k ^^^ nth b k else 0

theorem xs_set (a b : List UInt8) (n i : Nat) (h : i < n) : (xs a b n i).set i (nth a i ^^^ nth b i) = xs a b n (i + 1) := by
  refine nth_ext (by simp [xs]) fun k hk => ?_
  simp [xs] at hk
  rw [nth_set _ _ _ _ (by simpa [xs] using hk)]
  simp only [xs]
  rw [nth_range _ _ _ hk, nth_range _ _ _ hk]
  by_cases h1 : i = k
  · subst h1; simp
  · rw [if_neg h1]
    by_cases h2 : k < i
    · rw [if_pos h2, if_pos (by omega)]
    · rw [if_neg h2, if_neg (by omega)]

theorem xs_len (a b : List UInt8) (n i : Nat) : (xs a b n i).length = n := by simp [xs]

def xorT (a b : List UInt8) : List UInt8 := (List.range (min a.length b.length)).map fun k => nth a k ^^^ nth b k

theorem xorT_len (a b : List UInt8) : (xorT a b).length = min a.length b.length := by simp [xorT]

theorem xs_all (a b : List UInt8) (n : Nat) (h : n = min a.length b.length) : xs a b n n = xorT a b := by
  subst h
  simp only [xs, xorT]
  refine List.map_congr_left fun k hk => ?_
  rw [if_pos (List.mem_range.1 hk)]

theorem l10 (C : Det.Calls) (M : Mem) (a b : List UInt8) (N : Nat) (ha : N ≤ a.length) (hb : N ≤ b.length) (hN : N < 2 ^ 45) : ∀ (j i n : Nat), i + j = N → j < n →
    fgt a10_0 (rnd0 (some (e10_0 (.str a) (.str b) (.slice (some ⟨M.length, 4020, N, 0⟩) N 1) (.int .i64 N) (.int .i64 i), mk [(4020, .cells ((xs a b N i).map byteAV) true true)] :: M)) k10_0 C s10_b0 n) =
      some (.exit 0, x10_0 (.slice (some ⟨M.length, 4020, N, 0⟩) N 1), mk [(4020, .cells ((xs a b N N).map byteAV) true true)] :: M)
  | 0, i, n, h, hn => by
    obtain rfl : i = N := by omega
    rw [rnd0_some]
    conv => lhs; arg 2; arg 1; rw [s10_b0]
    simp [-List.map_set]
  | j + 1, i, n, h, hn => by
    obtain ⟨n, rfl⟩ : ∃ m, n = m + 1 := ⟨n - 1, by omega⟩
    have hi : i < N := by omega
    have ih := l10 C M a b N ha hb hN j (i + 1) n (by omega) (by omega)
    rw [rnd0_some]
    conv => lhs; arg 2; arg 1; rw [s10_b0]
    simpa (disch := omega) [-List.map_set, hi, byteAt_lt, xs_len, if_pos, xs_set, IntWalk.i64_in] using ih

theorem xor_ev {SP : SProg} {n10 : Nat} (h10 : SP.fn n10 = some s10) (k : Nat) (M : Mem) (a b : List UInt8) (h : min a.length b.length < 2 ^ 45) :
    callFn SP (k + 1) n10 [.str a, .str b] M = some (.str (xorT a b), [], M) := by
  rw [call_fn (h10.trans rfl) (by simp)]
  have h0 : List.replicate (min a.length b.length) (byteAV 0) = (xs a b (min a.length b.length) 0).map byteAV := by
    refine List.ext_getElem (by simp [xs]) fun i h1 h2 => ?_
    simp [xs]
  have hl := xs_len a b (min a.length b.length) (min a.length b.length)
  simp (disch := omega) [-List.map_set, if_pos, h0]
  rw [ev_loop (min a.length b.length + 1) (by simp [xs_len]) (l10 _ M a b _ (by omega) (by omega) h _ 0 _ (Nat.zero_add _) (by omega)) (by omega)]
  simp (disch := omega) [-List.map_set, if_pos, xs_all, xorT_len]
  rw [List.take_of_length_le (by simp [xorT_len])]
  simp (disch := omega) [-List.map_set, if_pos]

/-! ### bit by bit -/
theorem xor_step (x y : Nat) : x ^^^ y = (if x % 2 ≠ y % 2 then 1 else 0) + 2 * ((x / 2) ^^^ (y / 2)) := by
  have h1 : (x ^^^ y) / 2 = (x / 2) ^^^ (y / 2) := by
    have := Nat.xor_div_two_pow (a := x) (b := y) (n := 1)
    simpa using this
  have h2 : (x ^^^ y) % 2 = (x % 2) ^^^ (y % 2) := by
    have := Nat.xor_mod_two_pow (a := x) (b := y) (n := 1)
    simpa using this
  rw [← h1]
  have h3 := Nat.div_add_mod (x ^^^ y) 2
  clear h1
  generalize x ^^^ y = z at h2 h3 ⊢
  have hx : x % 2 = 0 ∨ x % 2 = 1 := by omega
  have hy : y % 2 = 0 ∨ y % 2 = 1 := by omega
  rcases hx with hx | hx <;> rcases hy with hy | hy <;> rw [hx, hy] at h2 ⊢ <;> simp at h2 ⊢ <;> omega

theorem half8 (x : UInt8) : (x / 2).toNat = x.toNat / 2 := by rw [UInt8.toNat_div]; rfl
theorem par8 (x y : UInt8) : x % 2 = y % 2 ↔ x.toNat % 2 = y.toNat % 2 := by
  rw [← UInt8.toNat_inj, UInt8.toNat_mod, UInt8.toNat_mod]; rfl

/-- What is left of two bytes after i rounds, and the sum so far. -/
theorem l24 (C : Det.Calls) (M : Mem) (a b : UInt8) : ∀ (j i n : Nat) (x y s p : UInt8), i + j = 8 → j < n → p.toNat = 2 ^ i % 256 → x.toNat < 2 ^ j → y.toNat < 2 ^ j → s.toNat + 2 ^ i * (x.toNat ^^^ y.toNat) = (a ^^^ b).toNat →
    fgt a24_0 (rnd0 (some (e24_0 (byteAV x) (byteAV y) (byteAV s) (byteAV p) (.int .i64 i), mk [] :: M)) k24_0 C s24_b0 n) =
      some (.exit 0, x24_0 (byteAV (a ^^^ b)), mk [] :: M)
  | 0, i, n, x, y, s, p, h, hn, hp, hx, hy, hs => by
    obtain rfl : i = 8 := by omega
    have h1 : x.toNat = 0 := by omega
    have h2 : y.toNat = 0 := by omega
    obtain rfl : s = a ^^^ b := by
      apply b8_eq
      rw [h1, h2] at hs
      simpa using hs
    obtain rfl : x = 0 := b8_eq h1
    obtain rfl : y = 0 := b8_eq h2
    obtain rfl : p = 0 := b8_eq hp
    rw [rnd0_some]
    conv => lhs; arg 2; arg 1; rw [s24_b0]
    simp
  | j + 1, i, n, x, y, s, p, h, hn, hp, hx, hy, hs => by
    obtain ⟨n, rfl⟩ : ∃ m, n = m + 1 := ⟨n - 1, by omega⟩
    have hi : i < 8 := by omega
    have hst := xor_step x.toNat y.toNat
    have hp2 : (2 * p).toNat = 2 ^ (i + 1) % 256 := by
      rw [UInt8.toNat_mul, hp, Nat.pow_succ]
      show 2 * (2 ^ i % 256) % 256 = _
      omega
    have hx2 : (x / 2).toNat < 2 ^ j := by rw [half8]; rw [Nat.pow_succ] at hx; omega
    have hy2 : (y / 2).toNat < 2 ^ j := by rw [half8]; rw [Nat.pow_succ] at hy; omega
    have hlt := b8_lt (a ^^^ b)
    have hpi : 2 ^ i % 256 = 2 ^ i := Nat.mod_eq_of_lt (Nat.pow_lt_pow_right (by omega) hi)
    rw [rnd0_some]
    conv => lhs; arg 2; arg 1; rw [s24_b0]
    by_cases hxy : x % 2 = y % 2
    · have ih := l24 C M a b j (i + 1) n (x / 2) (y / 2) s (2 * p) (by omega) (by omega) hp2 hx2 hy2 (by
        rw [half8, half8, ← hs, hst, if_neg (by simpa [par8] using hxy), Nat.pow_succ]
        rw [Nat.zero_add, Nat.mul_assoc])
      simpa (disch := omega) [hi, hxy, IntWalk.i64_in] using ih
    · have ih := l24 C M a b j (i + 1) n (x / 2) (y / 2) (s + p) (2 * p) (by omega) (by omega) hp2 hx2 hy2 (by
        rw [hst, if_pos (by simpa [par8] using hxy), Nat.mul_add, ← Nat.mul_assoc, ← Nat.pow_succ, Nat.mul_one] at hs
        rw [half8, half8, UInt8.toNat_add, hp, hpi]
        generalize 2 ^ (i + 1) * (x.toNat / 2 ^^^ y.toNat / 2) = w at hs ⊢
        show (s.toNat + 2 ^ i) % 256 + w = _
        generalize 2 ^ i = q at hs ⊢
        omega)
      simpa (disch := omega) [hi, hxy, IntWalk.i64_in] using ih

theorem unlike_ev {SP : SProg} {n24 : Nat} (h24 : SP.fn n24 = some s24) (k : Nat) (M : Mem) (a b : UInt8) : callFn SP (k + 1) n24 [byteAV a, byteAV b] M = some (byteAV (a ^^^ b), [], M) := by
  rw [call_fn (h24.trans rfl) (by simp)]
  simp (disch := omega) [if_pos]
  rw [ev_loop 9 (by simp) (l24 _ M a b 8 0 9 a b 0 1 rfl (by omega) rfl (by simpa using b8_lt a) (by simpa using b8_lt b) (by simp)) (by omega)]
  simp



def pre (a b : List UInt8) (i : Nat) : List UInt8 := (List.range i).map fun k => nth a k ^^^ nth b k
theorem pre_succ (a b : List UInt8) (i : Nat) : pre a b (i + 1) = pre a b i ++ [nth a i ^^^ nth b i] := by simp [pre, List.range_succ]
theorem pre_len (a b : List UInt8) (i : Nat) : (pre a b i).length = i := by simp [pre]
theorem pre_ne (a b : List UInt8) (i : Nat) (h : 0 < i) : (pre a b i).map byteAV ≠ [] := by
  intro h0
  have := congrArg List.length h0
  simp [pre_len] at this
  omega

def g11 (M : Mem) (a b : List UInt8) (i : Nat) : Env × Mem := (e11_0 (.str a) (.str b) (gv M.length 24012 ((pre a b i).map byteAV)) (.int .i64 i), mk (gm 24012 true ((pre a b i).map byteAV)) :: M)

theorem pre_zero (a b : List UInt8) : pre a b 0 = [] := rfl
theorem pre_all (a b : List UInt8) (n : Nat) (h : n = min a.length b.length) : pre a b n = xorT a b := by subst h; rfl

theorem l11 {SP : SProg} {n24 : Nat} (h24 : SP.fn n24 = some s24) (k : Nat) (M : Mem) (a b : List UInt8) (N : Nat) (hN : N = min a.length b.length) (hb : N < 2 ^ 40) : ∀ (j i n : Nat), i + j = N → j < n →
    fgt a11_0 (rnd0 (some (g11 M a b i)) k11_0 (callFn SP (k + 1)) (s11_b0 n24) n) = some (.exit 0, x11_0 (gv M.length 24012 ((pre a b N).map byteAV)), mk (gm 24012 true ((pre a b N).map byteAV)) :: M)
  | 0, i, n, h, hn => by
    obtain rfl : i = N := by omega
    rw [g11, rnd0_some]
    conv => lhs; arg 2; arg 1; rw [s11_b0]
    have hl := pre_len a b i
    by_cases h2 : i = 0
    · by_cases h1 : i < a.length
      · have h3 : ¬ i < b.length := by omega
        subst h2; simp (disch := omega) [pre_zero, gv_nil, gm_nil, h1, h3]
      · subst h2; simp (disch := omega) [pre_zero, gv_nil, gm_nil, h1]
    · have hne := pre_ne a b i (by omega)
      by_cases h1 : i < a.length
      · have h3 : ¬ i < b.length := by omega
        simp (disch := omega) [gv_ne _ _ _ hne, gm_ne _ _ _ hne, h1, h3]
      · simp (disch := omega) [gv_ne _ _ _ hne, gm_ne _ _ _ hne, h1]
  | j + 1, i, n, h, hn => by
    obtain ⟨n, rfl⟩ : ∃ m, n = m + 1 := ⟨n - 1, by omega⟩
    have ih := l11 h24 k M a b N hN hb j (i + 1) n (by omega) (by omega)
    rw [g11, pre_succ, List.map_append, List.map_cons, List.map_nil, gv_snoc, gm_snoc] at ih
    rw [g11, rnd0_some]
    conv => lhs; arg 2; arg 1; rw [s11_b0]
    have hl := pre_len a b i
    by_cases h2 : i = 0
    · subst h2
      simpa (disch := omega) [pre_zero, gv_nil, gm_nil, byteAt_lt, if_pos, if_neg, (unlike_ev h24), IntWalk.i64_in, pre_len] using ih
    · have hne := pre_ne a b i (by omega)
      simpa (disch := omega) [gv_ne _ _ _ hne, gm_ne _ _ _ hne, byteAt_lt, if_pos, if_neg, (unlike_ev h24), IntWalk.i64_in, pre_len] using ih

theorem refxor_ev {SP : SProg} {n11 : Nat} {n24 : Nat} (h11 : SP.fn n11 = some (s11 n24)) (h24 : SP.fn n24 = some s24) (k : Nat) (M : Mem) (a b : List UInt8) (h : min a.length b.length < 2 ^ 40) : callFn SP (k + 2) n11 [.str a, .str b] M = some (.str (xorT a b), [], M) := by
  rw [call_fn (h11.trans rfl) (by simp)]
  simp (disch := omega) [if_pos]
  have hg := (l11 h24) k M a b _ rfl h _ 0 _ (Nat.zero_add _) (Nat.lt_succ_self _)
  rw [ev_loop (min a.length b.length + 1) (by simp [g11, pre_zero, gv_nil, gm_nil]) hg (by omega)]
  by_cases h2 : min a.length b.length = 0
  · rw [h2, pre_zero]
    have he : xorT a b = [] := List.eq_nil_of_length_eq_zero (by rw [xorT_len]; exact h2)
    simp [gv_nil, gm_nil, he]
  · have hne := pre_ne a b _ (Nat.pos_of_ne_zero h2)
    rw [pre_all _ _ _ rfl] at hne ⊢
    have hl := xorT_len a b
    simp (disch := omega) [gv_ne _ _ _ hne, gm_ne _ _ _ hne, xorT_len]

theorem xorT_comm (a b : List UInt8) : xorT a b = xorT b a := by
  simp only [xorT, Nat.min_comm]
  exact List.map_congr_left fun k _ => UInt8.xor_comm _ _



/-- Turned to the left. -/
def rot (x : BitVec 32) (t : Nat) : BitVec 32 := x.rotateLeft t

theorem rot_bit (x : BitVec 32) (t i : Nat) (h : i < 32) : (rot x t).getLsbD i = x.getLsbD ((i + 32 - t % 32) % 32) := by
  unfold rot
  rw [BitVec.getLsbD_rotateLeft]
  by_cases h1 : i < t % 32
  · simp only [h1, cond_true, decide_true]
    congr 1
    omega
  · simp only [h1, cond_false, decide_false, h, decide_true, Bool.true_and]
    congr 1
    omega

theorem rot_ext (x y : BitVec 32) (h : ∀ i, i < 32 → x.getLsbD i = y.getLsbD i) : x = y := BitVec.eq_of_getLsbD_eq h

theorem rot_rot (x : BitVec 32) (a b : Nat) : rot (rot x a) b = rot x (a + b) := by
  refine rot_ext _ _ fun i hi => ?_
  rw [rot_bit _ _ _ hi, rot_bit _ _ _ (by omega), rot_bit _ _ _ hi]
  congr 1
  omega

theorem rot_eq (x : BitVec 32) (a b : Nat) (h : a % 32 = b % 32) : rot x a = rot x b := by
  refine rot_ext _ _ fun i hi => ?_
  rw [rot_bit _ _ _ hi, rot_bit _ _ _ hi, h]

theorem rot_zero (x : BitVec 32) : rot x 0 = x := by
  refine rot_ext _ _ fun i hi => ?_
  rw [rot_bit _ _ _ hi]
  congr 1
  omega

/-- How far a number of places turns. -/
def tn (n : Int) : Nat := (n % 32).toNat
theorem tn_lt (n : Int) : tn n < 32 := by unfold tn; omega

theorem k_toNat (n : Int) : (BitVec.ofInt 64 n % 32#64).toNat = tn n := by
  rw [BitVec.toNat_umod, BitVec.toNat_ofInt]
  unfold tn
  show (n % 18446744073709551616).toNat % 32 = _
  omega

theorem left_val (x : BitVec 32) (n : Int) : x <<< (BitVec.ofInt 64 n % 32#64).toNat ||| x >>> (32#64 - BitVec.ofInt 64 n % 32#64).toNat = rot x (tn n) := by
  have h := k_toNat n
  have ht := tn_lt n
  have h2 : (32#64 - BitVec.ofInt 64 n % 32#64).toNat = 32 - tn n := by
    rw [BitVec.toNat_sub, h]
    show (18446744073709551616 - tn n + 32) % 18446744073709551616 = _
    omega
  rw [h, h2]
  unfold rot
  rw [BitVec.rotateLeft_def, Nat.mod_eq_of_lt ht]

theorem left_ev {SP : SProg} {n17 : Nat} (h17 : SP.fn n17 = some s17) (k : Nat) (M : Mem) (x : BitVec 32) (n : Int) : callFn SP (k + 1) n17 [u32 x, .int .i64 n] M = some (u32 (rot x (tn n)), [], M) := by
  rw [call_fn (h17.trans rfl) (by simp)]
  have h := left_val x n
  simp at h
  simp (disch := omega) [if_pos, if_neg, h]

theorem right_ev {SP : SProg} {n17 : Nat} {n19 : Nat} (h17 : SP.fn n17 = some s17) (h19 : SP.fn n19 = some (s19 n17)) (k : Nat) (M : Mem) (s : Scope) (x : BitVec 32) (n : Int) : callFn SP (k + 2) n19 [u32 x, .int .i64 n] (s :: M) = some (u32 (rot x (32 - tn n)), [], s :: M) := by
  rw [call_fn (h19.trans rfl) (by simp)]
  have ht := tn_lt n
  have h := k_toNat n
  have e : (BitVec.ofInt 64 n % 32#64).toNat = tn n := h
  simp at e
  simp (disch := omega) [if_pos, if_neg, e, IntWalk.i64_in, (left_ev h17)]
  refine rot_eq _ _ _ ?_
  unfold tn
  omega

theorem step_left (x : BitVec 32) : x * 2#32 + x / 2147483648#32 = rot x 1 := by
  have h1 : x * 2#32 = x <<< 1 := by
    apply BitVec.eq_of_toNat_eq
    rw [BitVec.toNat_mul, BitVec.toNat_shiftLeft, Nat.shiftLeft_eq]
    rfl
  have h2 : x / 2147483648#32 = x >>> 31 := by
    apply BitVec.eq_of_toNat_eq
    rw [BitVec.toNat_udiv, BitVec.toNat_ushiftRight, Nat.shiftRight_eq_div_pow]
    rfl
  rw [h1, h2]
  have h3 : x <<< 1 &&& x >>> 31 = 0#32 := by
    apply BitVec.eq_of_getLsbD_eq
    intro i hi
    simp only [BitVec.getLsbD_and, BitVec.getLsbD_shiftLeft, BitVec.getLsbD_ushiftRight, BitVec.getLsbD_zero]
    by_cases h0 : i = 0
    · subst h0; simp
    · have : x.getLsbD (31 + i) = false := BitVec.getLsbD_of_ge _ _ (by omega)
      simp [this]
  rw [BitVec.add_eq_or_of_and_eq_zero _ _ h3]
  unfold rot
  rw [BitVec.rotateLeft_def]

theorem step_right (x : BitVec 32) : x / 2#32 + (x % 2#32) * 2147483648#32 = rot x 31 := by
  have h1 : x % 2#32 * 2147483648#32 = x <<< 31 := by
    apply BitVec.eq_of_toNat_eq
    rw [BitVec.toNat_mul, BitVec.toNat_umod, BitVec.toNat_shiftLeft, Nat.shiftLeft_eq]
    show x.toNat % 2 * 2147483648 % 4294967296 = x.toNat * 2147483648 % 4294967296
    omega
  have h2 : x / 2#32 = x >>> 1 := by
    apply BitVec.eq_of_toNat_eq
    rw [BitVec.toNat_udiv, BitVec.toNat_ushiftRight, Nat.shiftRight_eq_div_pow]
    rfl
  rw [h1, h2, BitVec.add_comm]
  have h3 : x <<< 31 &&& x >>> 1 = 0#32 := by
    apply BitVec.eq_of_getLsbD_eq
    intro i hi
    simp only [BitVec.getLsbD_and, BitVec.getLsbD_shiftLeft, BitVec.getLsbD_ushiftRight, BitVec.getLsbD_zero]
    by_cases h0 : i = 31
    · subst h0
      have : x.getLsbD (1 + 31) = false := BitVec.getLsbD_of_ge _ _ (by omega)
      simp [this]
    · have : i < 31 := by omega
      simp [this]
  rw [BitVec.add_eq_or_of_and_eq_zero _ _ h3]
  unfold rot
  rw [BitVec.rotateLeft_def]

theorem l18 (C : Det.Calls) (M : Mem) (N : Nat) (hN : N < 32) : ∀ (j i n : Nat) (x : BitVec 32), i + j = N → j < n →
    fgt a18_0 (rnd0 (some (e18_0 (u32 x) (.int .i64 N) (.int .i64 i), mk [] :: M)) k18_0 C s18_b0 n) = some (.exit 0, x18_0 (u32 (rot x j)), mk [] :: M)
  | 0, i, n, x, h, hn => by
    obtain rfl : i = N := by omega
    rw [rnd0_some, rot_zero]
    conv => lhs; arg 2; arg 1; rw [s18_b0]
    simp
  | j + 1, i, n, x, h, hn => by
    obtain ⟨n, rfl⟩ : ∃ m, n = m + 1 := ⟨n - 1, by omega⟩
    have ih := l18 C M N hN j (i + 1) n (rot x 1) (by omega) (by omega)
    rw [rot_rot, Nat.add_comm 1 j] at ih
    have hs := step_left x
    rw [rnd0_some]
    conv => lhs; arg 2; arg 1; rw [s18_b0]
    simpa (disch := omega) [hs, IntWalk.i64_in] using ih

theorem l20 (C : Det.Calls) (M : Mem) (N : Nat) (hN : N < 32) (j : Nat) : ∀ (i n : Nat) (x : BitVec 32), i + j = N → j < n →
    fgt a20_0 (rnd0 (some (e20_0 (u32 x) (.int .i64 N) (.int .i64 i), mk [] :: M)) k20_0 C s20_b0 n) = some (.exit 0, x20_0 (u32 (rot x (31 * j))), mk [] :: M) := by
  induction j with
  | zero =>
    intro i n x h hn
    obtain rfl : i = N := by omega
    rw [rnd0_some, Nat.mul_zero, rot_zero]
    conv => lhs; arg 2; arg 1; rw [s20_b0]
    simp
  | succ j ih0 =>
    intro i n x h hn
    obtain ⟨n, rfl⟩ : ∃ m, n = m + 1 := ⟨n - 1, by omega⟩
    have ih := ih0 (i + 1) n (rot x 31) (by omega) (by omega)
    rw [rot_rot, show 31 + 31 * j = 31 * (j + 1) by omega] at ih
    have hs := step_right x
    rw [rnd0_some]
    conv => lhs; arg 2; arg 1; rw [s20_b0]
    simpa (disch := omega) [hs, IntWalk.i64_in] using ih

theorem tmod32 (n : Int) : n.tmod 32 = n % 32 ∨ n.tmod 32 = n % 32 - 32 ∧ n.tmod 32 < 0 := by
  rcases Int.le_total 0 n with h | h
  · left; exact Int.tmod_eq_emod_of_nonneg h
  · have e : n.tmod 32 = -((-n).tmod 32) := by rw [Int.neg_tmod]; omega
    rw [Int.tmod_eq_emod_of_nonneg (by omega : 0 ≤ -n)] at e
    omega

theorem refleft_ev {SP : SProg} {n18 : Nat} (h18 : SP.fn n18 = some s18) (k : Nat) (M : Mem) (x : BitVec 32) (n : Int) (hn : -9223372036854775808 ≤ n ∧ n ≤ 9223372036854775807) : callFn SP (k + 1) n18 [u32 x, .int .i64 n] M = some (u32 (rot x (tn n)), [], M) := by
  rw [call_fn (h18.trans rfl) (by simp)]
  have hm := tmod32 n
  have ht := tn_lt n
  have e : (tn n : Int) = n % 32 := by unfold tn; omega
  have hl := l18 (callFn SP k) M (tn n) ht (tn n) 0 (tn n + 1) x (Nat.zero_add _) (Nat.lt_succ_self _)
  by_cases h0 : n.tmod 32 < 0
  · have e2 : n.tmod 32 + 32 = (tn n : Int) := by omega
    simp (disch := omega) [h0, e2, IntWalk.i64_in]
    rw [ev_loop (tn n + 1) (by simp) hl (by omega)]
    simp
  · have e2 : n.tmod 32 = (tn n : Int) := by omega
    simp (disch := omega) [h0, e2, IntWalk.i64_in]
    rw [ev_loop (tn n + 1) (by simp) hl (by omega)]
    simp

theorem refright_ev {SP : SProg} {n20 : Nat} (h20 : SP.fn n20 = some s20) (k : Nat) (M : Mem) (x : BitVec 32) (n : Int) (hn : -9223372036854775808 ≤ n ∧ n ≤ 9223372036854775807) : callFn SP (k + 1) n20 [u32 x, .int .i64 n] M = some (u32 (rot x (31 * tn n)), [], M) := by
  rw [call_fn (h20.trans rfl) (by simp)]
  have hm := tmod32 n
  have ht := tn_lt n
  have e : (tn n : Int) = n % 32 := by unfold tn; omega
  have hl := l20 (callFn SP k) M (tn n) ht (tn n) 0 (tn n + 1) x (Nat.zero_add _) (Nat.lt_succ_self _)
  by_cases h0 : n.tmod 32 < 0
  · have e2 : n.tmod 32 + 32 = (tn n : Int) := by omega
    simp (disch := omega) [h0, e2, IntWalk.i64_in]
    rw [ev_loop (tn n + 1) (by simp) hl (by omega)]
    simp
  · have e2 : n.tmod 32 = (tn n : Int) := by omega
    simp (disch := omega) [h0, e2, IntWalk.i64_in]
    rw [ev_loop (tn n + 1) (by simp) hl (by omega)]
    simp

theorem right_same (x : BitVec 32) (n : Int) : rot x (31 * tn n) = rot x (32 - tn n) := by
  have := tn_lt n
  exact rot_eq _ _ _ (by omega)



def w8 (b : UInt8) : BitVec 32 := b.toBitVec.setWidth 32
theorem w8_lt (b : UInt8) : (w8 b).toNat < 256 := by
  have := b.toNat_lt
  rw [show (w8 b).toNat = b.toNat from by unfold w8; rw [BitVec.toNat_setWidth, UInt8.toNat_toBitVec, Nat.mod_eq_of_lt (by omega)]]
  omega
theorem w8_nat (b : UInt8) : (w8 b).toNat = b.toNat := by
  have := b.toNat_lt
  unfold w8
  rw [BitVec.toNat_setWidth, UInt8.toNat_toBitVec, Nat.mod_eq_of_lt (by omega)]

/-- Four bytes as a word, the lowest first. -/
def wd (a b c d : UInt8) : BitVec 32 := w8 a ||| w8 b <<< 8 ||| w8 c <<< 16 ||| w8 d <<< 24

theorem or_add (x y : BitVec 32) (k : Nat) (h : x.toNat < 2 ^ k) (h2 : y.toNat * 2 ^ k < 2 ^ 32) : (x ||| y <<< k).toNat = x.toNat + y.toNat * 2 ^ k := by
  rw [BitVec.toNat_or, BitVec.toNat_shiftLeft, Nat.shiftLeft_eq, Nat.mod_eq_of_lt h2, Nat.or_comm, ← Nat.shiftLeft_eq, ← Nat.shiftLeft_add_eq_or_of_lt h, Nat.shiftLeft_eq, Nat.add_comm]

theorem wd_nat (a b c d : UInt8) : (wd a b c d).toNat = a.toNat + b.toNat * 256 + c.toNat * 65536 + d.toNat * 16777216 := by
  have ha := a.toNat_lt
  have hb := b.toNat_lt
  have hc := c.toNat_lt
  have hd := d.toNat_lt
  have e1 := or_add (w8 a) (w8 b) 8 (by rw [w8_nat]; omega) (by rw [w8_nat]; omega)
  have e2 := or_add (w8 a ||| w8 b <<< 8) (w8 c) 16 (by rw [e1, w8_nat, w8_nat]; omega) (by rw [w8_nat]; omega)
  have e3 := or_add (w8 a ||| w8 b <<< 8 ||| w8 c <<< 16) (w8 d) 24 (by rw [e2, e1, w8_nat, w8_nat, w8_nat]; omega) (by rw [w8_nat]; omega)
  unfold wd
  rw [e3, e2, e1, w8_nat, w8_nat, w8_nat, w8_nat]

theorem or4 (a b c d : BitVec 32) : a ||| b ||| c ||| d = d ||| c ||| b ||| a := by ac_rfl
theorem wd_rev (a b c d : UInt8) : w8 a <<< 24 ||| w8 b <<< 16 ||| w8 c <<< 8 ||| w8 d = wd d c b a := or4 _ _ _ _

theorem little_word {SP : SProg} {n26 : Nat} (h26 : SP.fn n26 = some s26) (k : Nat) (M : Mem) (a b c d : BitVec 32) : callFn SP (k + 1) n26 [u32 a, u32 b, u32 c, u32 d] M = some (u32 (a ||| b <<< 8 ||| c <<< 16 ||| d <<< 24), [], M) := by
  rw [call_fn (h26.trans rfl) (by simp)]
  simp

theorem big_word {SP : SProg} {n27 : Nat} (h27 : SP.fn n27 = some s27) (k : Nat) (M : Mem) (a b c d : BitVec 32) : callFn SP (k + 1) n27 [u32 a, u32 b, u32 c, u32 d] M = some (u32 (a <<< 24 ||| b <<< 16 ||| c <<< 8 ||| d), [], M) := by
  rw [call_fn (h27.trans rfl) (by simp)]
  simp

/-- The word of a text at a place. -/
def wat (big : Bool) (s : List UInt8) (i : Nat) : BitVec 32 :=
  if big then wd (nth s (4 * i + 3)) (nth s (4 * i + 2)) (nth s (4 * i + 1)) (nth s (4 * i)) else wd (nth s (4 * i)) (nth s (4 * i + 1)) (nth s (4 * i + 2)) (nth s (4 * i + 3))

/-- What a word's closure comes to. -/
def Wordly (SP : SProg) (f : Nat) (big : Bool) : Prop := ∀ k M (s : List UInt8) i,
  callFn SP (k + 1) f [u32 (w8 (nth s (4 * i))), u32 (w8 (nth s (4 * i + 1))), u32 (w8 (nth s (4 * i + 2))), u32 (w8 (nth s (4 * i + 3)))] M = some (u32 (wat big s i), [], M)

theorem wordly_little {SP : SProg} {n26 : Nat} (h26 : SP.fn n26 = some s26) : Wordly SP n26 false := by
  intro k M s i
  simp only [wat, if_false, Bool.false_eq_true, (little_word h26)]; rfl
theorem wordly_big {SP : SProg} {n27 : Nat} (h27 : SP.fn n27 = some s27) : Wordly SP n27 true := by
  intro k M s i
  simp only [wat, if_true, (big_word h27), wd_rev]

set_option maxHeartbeats 4000000 in
theorem l25 {SP : SProg} {f : Nat} {big : Bool} (hwd : Wordly SP f big) (k : Nat) (M : Mem) (s : List UInt8) (N : Nat) (hs : s.length = 4 * N) (hN : N < 2 ^ 40) (j : Nat) : ∀ (i n : Nat), i + j = N → j < n →
    fgt a25_0 (rnd0 (some (e25_0 (.str s) (.func f [] []) (.slice (some ⟨M.length, 12012, N, 0⟩) N 1) (.int .i64 N) (.int .i64 i), mk [(12012, .cells ((fil (wat big s) 0 N i).map u32) true true)] :: M)) k25_0 (callFn SP (k + 1)) s25_b0 n) =
      some (.exit 0, x25_0 (.slice (some ⟨M.length, 12012, N, 0⟩) N 1), mk [(12012, .cells ((fil (wat big s) 0 N N).map u32) true true)] :: M) := by
  induction j with
  | zero =>
    intro i n h hn
    obtain rfl : i = N := by omega
    rw [rnd0_some]
    conv => lhs; arg 2; arg 1; rw [s25_b0]
    simp [-List.map_set]
  | succ j ih0 =>
    intro i n h hn
    obtain ⟨n, rfl⟩ : ∃ m, n = m + 1 := ⟨n - 1, by omega⟩
    have hi : i < N := by omega
    have ih := ih0 (i + 1) n (by omega) (by omega)
    have hw := fun M => hwd k M s i
    simp only [w8] at hw
    have t0 : (4 * (i : Int)).toNat = 4 * i := by omega
    have t1 : (4 * (i : Int) + 1).toNat = 4 * i + 1 := by omega
    have t2 : (4 * (i : Int) + 2).toNat = 4 * i + 2 := by omega
    have t3 : (4 * (i : Int) + 3).toNat = 4 * i + 3 := by omega
    rw [rnd0_some]
    conv => lhs; arg 2; arg 1; rw [s25_b0]
    simpa (disch := omega) [-List.map_set, hi, byteAt_lt, if_pos, fil_set, IntWalk.i64_in, t0, t1, t2, t3, hw] using ih



theorem each_ev {SP : SProg} {n25 : Nat} (h25 : SP.fn n25 = some s25) {f : Nat} {big : Bool} (hwd : Wordly SP f big) (k : Nat) (M : Mem) (s : List UInt8) (N : Nat) (hs : s.length = 4 * N) (hN : N < 2 ^ 40) :
    callFn SP (k + 2) n25 [.str s, .func f [] []] M = some (.tuple [.slice (some ⟨M.length, 0, N, 0⟩) N 1, .int .i64 0], [.cells ((tab (wat big s) N).map u32) true true], M) := by
  rw [call_fn (h25.trans rfl) (by simp)]
  have e1 : ((s.length : Int) % 4) = 0 := by omega
  have e2 : ((s.length : Int) / 4) = (N : Int) := by omega
  have hf := fil_zero (wat big s) 0#32 N
  have ha := fil_all (wat big s) 0#32 N
  have hl := l25 hwd k M s N hs hN N 0 (N + 1) (Nat.zero_add _) (Nat.lt_succ_self _)
  rw [show (0 : BitVec 32) = 0#32 from rfl, ha, hf] at hl
  simp (disch := omega) [-List.map_set, if_pos, if_neg, e1, e2, IntWalk.i64_in]
  rw [ev_loop (N + 1) (by simp) hl (by omega)]
  simp (disch := omega) [-List.map_set, if_pos]

theorem each_bad {SP : SProg} {n25 : Nat} (h25 : SP.fn n25 = some s25) (f : Nat) (k : Nat) (M : Mem) (s : List UInt8) (hs : s.length % 4 ≠ 0) :
    callFn SP (k + 1) n25 [.str s, .func f [] []] M = some (.tuple [.slice none 0 0, .int .i64 7], [], M) := by
  rw [call_fn (h25.trans rfl) (by simp)]
  have e1 : ((s.length : Int) % 4) ≠ 0 := by omega
  simp (disch := omega) [-List.map_set, if_pos, if_neg, e1]

theorem little_ev {SP : SProg} {n12 : Nat} {n25 : Nat} {n26 : Nat} (h12 : SP.fn n12 = some (s12 n25 n26)) (h25 : SP.fn n25 = some s25) (h26 : SP.fn n26 = some s26) (k : Nat) (M : Mem) (s : List UInt8) (N : Nat) (hs : s.length = 4 * N) (hN : N < 2 ^ 40) :
    callFn SP (k + 3) n12 [.str s] M = some (.tuple [.slice (some ⟨M.length, 0, N, 0⟩) N 1, .int .i64 0], [.cells ((tab (wat false s) N).map u32) true true], M) := by
  rw [call_fn (h12.trans rfl) (by simp)]
  have h := fun M => (each_ev h25) (wordly_little h26) k M s N hs hN
  simp (disch := omega) [-List.map_set, if_pos, if_neg, h]

theorem big_ev {SP : SProg} {n14 : Nat} {n25 : Nat} {n27 : Nat} (h14 : SP.fn n14 = some (s14 n25 n27)) (h25 : SP.fn n25 = some s25) (h27 : SP.fn n27 = some s27) (k : Nat) (M : Mem) (s : List UInt8) (N : Nat) (hs : s.length = 4 * N) (hN : N < 2 ^ 40) :
    callFn SP (k + 3) n14 [.str s] M = some (.tuple [.slice (some ⟨M.length, 0, N, 0⟩) N 1, .int .i64 0], [.cells ((tab (wat true s) N).map u32) true true], M) := by
  rw [call_fn (h14.trans rfl) (by simp)]
  have h := fun M => (each_ev h25) (wordly_big h27) k M s N hs hN
  simp (disch := omega) [-List.map_set, if_pos, if_neg, h]

theorem little_bad {SP : SProg} {n12 : Nat} {n25 : Nat} {n26 : Nat} (h12 : SP.fn n12 = some (s12 n25 n26)) (h25 : SP.fn n25 = some s25) (h26 : SP.fn n26 = some s26) (k : Nat) (M : Mem) (s : List UInt8) (hs : s.length % 4 ≠ 0) :
    callFn SP (k + 2) n12 [.str s] M = some (.tuple [.slice none 0 0, .int .i64 7], [], M) := by
  rw [call_fn (h12.trans rfl) (by simp)]
  have h := fun M => (each_bad h25) n26 k M s hs
  simp (disch := omega) [-List.map_set, if_pos, if_neg, h]

theorem big_bad {SP : SProg} {n14 : Nat} {n25 : Nat} {n27 : Nat} (h14 : SP.fn n14 = some (s14 n25 n27)) (h25 : SP.fn n25 = some s25) (h27 : SP.fn n27 = some s27) (k : Nat) (M : Mem) (s : List UInt8) (hs : s.length % 4 ≠ 0) :
    callFn SP (k + 2) n14 [.str s] M = some (.tuple [.slice none 0 0, .int .i64 7], [], M) := by
  rw [call_fn (h14.trans rfl) (by simp)]
  have h := fun M => (each_bad h25) n27 k M s hs
  simp (disch := omega) [-List.map_set, if_pos, if_neg, h]



def hor (big : Bool) (s : List UInt8) (i : Nat) : Nat → BitVec 32
  | 0 => 0#32
  | k + 1 => 256#32 * hor big s i k + w8 (nth s (if big then 4 * i + k else 4 * i + 3 - k))

theorem hor_four (big : Bool) (s : List UInt8) (i : Nat) : hor big s i 4 = wat big s i := by
  apply BitVec.eq_of_toNat_eq
  cases big
  · simp only [hor, wat, wd_nat, Bool.false_eq_true, if_false, BitVec.toNat_add, BitVec.toNat_mul, w8_nat, Nat.add_sub_cancel, show 4 * i + 3 - 0 = 4 * i + 3 from rfl, show 4 * i + 3 - 1 = 4 * i + 2 from rfl, show 4 * i + 3 - 2 = 4 * i + 1 from rfl]
    have h0 := (nth s (4 * i)).toNat_lt
    have h1 := (nth s (4 * i + 1)).toNat_lt
    have h2 := (nth s (4 * i + 2)).toNat_lt
    have h3 := (nth s (4 * i + 3)).toNat_lt
    generalize (nth s (4 * i)).toNat = a0 at *
    generalize (nth s (4 * i + 1)).toNat = a1 at *
    generalize (nth s (4 * i + 2)).toNat = a2 at *
    generalize (nth s (4 * i + 3)).toNat = a3 at *
    show (256 * ((256 * ((256 * ((256 * 0 % 4294967296 + a3) % 4294967296) % 4294967296 + a2) % 4294967296) % 4294967296 + a1) % 4294967296) % 4294967296 + a0) % 4294967296 = _
    omega
  · simp only [hor, wat, wd_nat, if_true, BitVec.toNat_add, BitVec.toNat_mul, w8_nat, Nat.add_zero]
    have h0 := (nth s (4 * i)).toNat_lt
    have h1 := (nth s (4 * i + 1)).toNat_lt
    have h2 := (nth s (4 * i + 2)).toNat_lt
    have h3 := (nth s (4 * i + 3)).toNat_lt
    generalize (nth s (4 * i)).toNat = a0 at *
    generalize (nth s (4 * i + 1)).toNat = a1 at *
    generalize (nth s (4 * i + 2)).toNat = a2 at *
    generalize (nth s (4 * i + 3)).toNat = a3 at *
    show (256 * ((256 * ((256 * ((256 * 0 % 4294967296 + a0) % 4294967296) % 4294967296 + a1) % 4294967296) % 4294967296 + a2) % 4294967296) % 4294967296 + a3) % 4294967296 = _
    omega

theorem l13_1 (C : Det.Calls) (M : Mem) (big : Bool) (s : List UInt8) (l : List AV) (i N : Nat) (hs : s.length = 4 * N) (hi : i < N) (hN : N < 2 ^ 40) (j : Nat) : ∀ (kk n : Nat), kk + j = 4 → j < n →
    fgt a13_1 (rnd0 (some (e13_1 (.str s) (.bool big) (gv M.length 60012 l) (.int .i64 (4 * (i : Int))) (u32 (hor big s i kk)) (.int .i64 kk), mk (gm 60012 true l) :: M)) k13_1 C s13_b1 n) =
      some (.exit 2, x13_1 (.str s) (.bool big) (gv M.length 60012 l) (.int .i64 (4 * (i : Int))) (u32 (hor big s i 4)), mk (gm 60012 true l) :: M) := by
  induction j with
  | zero =>
    intro kk n h hn
    obtain rfl : kk = 4 := by omega
    rw [rnd0_some]
    conv => lhs; arg 2; arg 1; rw [s13_b1]
    by_cases h0 : l = []
    · subst h0; simp [gv_nil, gm_nil]
    · simp [gv_ne _ _ _ h0, gm_ne _ _ _ h0]
  | succ j ih0 =>
    intro kk n h hn
    obtain ⟨n, rfl⟩ : ∃ m, n = m + 1 := ⟨n - 1, by omega⟩
    have ih := ih0 (kk + 1) n (by omega) (by omega)
    rw [show hor big s i (kk + 1) = 256#32 * hor big s i kk + w8 (nth s (if big then 4 * i + kk else 4 * i + 3 - kk)) from rfl] at ih
    simp only [w8] at ih
    have hk : kk < 4 := by omega
    rw [rnd0_some]
    conv => lhs; arg 2; arg 1; rw [s13_b1]
    cases big
    · have t0 : (4 * (i : Int) + 3 - (kk : Int)).toNat = 4 * i + 3 - kk := by omega
      by_cases h0 : l = []
      · subst h0
        simpa (disch := omega) [gv_nil, gm_nil, hk, byteAt_lt, t0, IntWalk.i64_in, if_pos] using ih
      · simpa (disch := omega) [gv_ne _ _ _ h0, gm_ne _ _ _ h0, hk, byteAt_lt, t0, IntWalk.i64_in, if_pos] using ih
    · have t0 : (4 * (i : Int) + (kk : Int)).toNat = 4 * i + kk := by omega
      by_cases h0 : l = []
      · subst h0
        simpa (disch := omega) [gv_nil, gm_nil, hk, byteAt_lt, t0, IntWalk.i64_in, if_pos] using ih
      · simpa (disch := omega) [gv_ne _ _ _ h0, gm_ne _ _ _ h0, hk, byteAt_lt, t0, IntWalk.i64_in, if_pos] using ih



theorem l13_0 {SP : SProg} (k : Nat) (M : Mem) (big : Bool) (s : List UInt8) (N : Nat) (hs : s.length = 4 * N) (hN : N < 2 ^ 40) (j : Nat) : ∀ (i n : Nat), i + j = N → j < n →
    fgt a13_0 (rnd0 (some (e13_0 (.str s) (.bool big) (gv M.length 60012 ((tab (wat big s) i).map u32)) (.int .i64 (4 * (i : Int))), mk (gm 60012 true ((tab (wat big s) i).map u32)) :: M)) k13_0 (callFn SP k) s13_b0 n) =
      some (.exit 0, x13_0 (gv M.length 60012 ((tab (wat big s) N).map u32)), mk (gm 60012 true ((tab (wat big s) N).map u32)) :: M) := by
  induction j with
  | zero =>
    intro i n h hn
    obtain rfl : i = N := by omega
    rw [rnd0_some]
    conv => lhs; arg 2; arg 1; rw [s13_b0]
    have e1 : ¬ 4 * (i : Int) < s.length := by omega
    by_cases h0 : i = 0
    · subst h0; simp [tab_zero, gv_nil, gm_nil, hs]
    · have hne := tab_ne (wat big s) u32 i (by omega)
      simp [gv_ne _ _ _ hne, gm_ne _ _ _ hne, hs]
  | succ j ih0 =>
    intro i n h hn
    obtain ⟨n, rfl⟩ : ∃ m, n = m + 1 := ⟨n - 1, by omega⟩
    have hi : i < N := by omega
    have ih := ih0 (i + 1) n (by omega) (by omega)
    rw [tab_succ, List.map_append, List.map_cons, List.map_nil, gv_snoc, gm_snoc] at ih
    have hl := l13_1 (callFn SP k) M big s ((tab (wat big s) i).map u32) i N hs hi hN 4 0 5 rfl (by omega)
    rw [hor_four, show hor big s i 0 = 0#32 from rfl] at hl
    have e4 : 4 * (i : Int) + 4 = 4 * ((i : Int) + 1) := by omega
    have e1 : 4 * (i : Int) < s.length := by omega
    rw [rnd0_some]
    conv => lhs; arg 2; arg 1; rw [s13_b0]
    by_cases h0 : i = 0
    · subst h0
      simp only [tab_zero, List.map_nil, gv_nil, gm_nil] at hl ih ⊢
      simp at e1
      simp (disch := omega) [e1]
      rw [ev_loop 5 (by simp) hl (by omega)]
      simpa (disch := omega) [IntWalk.i64_in] using ih
    · have hne := tab_ne (wat big s) u32 i (by omega)
      simp only [gv_ne _ _ _ hne, gm_ne _ _ _ hne] at hl ih ⊢
      simp (disch := omega) [e1]
      rw [ev_loop 5 (by simp) hl (by omega)]
      simpa (disch := omega) [IntWalk.i64_in, e4, if_pos, if_neg] using ih

theorem refwords_ev {SP : SProg} {n13 : Nat} (h13 : SP.fn n13 = some s13) (k : Nat) (M : Mem) (big : Bool) (s : List UInt8) (N : Nat) (hs : s.length = 4 * N) (hN : N < 2 ^ 40) (h0 : 0 < N) :
    callFn SP (k + 1) n13 [.str s, .bool big] M = some (.tuple [.slice (some ⟨M.length, 0, N, 0⟩) N 1, .int .i64 0], [.cells ((tab (wat big s) N).map u32) true true], M) := by
  rw [call_fn (h13.trans rfl) (by simp)]
  have e1 : ((s.length : Int) % 4) = 0 := by omega
  have hl := l13_0 (SP := SP) k M big s N hs hN N 0 (N + 1) (Nat.zero_add _) (Nat.lt_succ_self _)
  have hne := tab_ne (wat big s) u32 N h0
  simp only [tab_zero, List.map_nil, gv_nil, gm_nil, gv_ne _ _ _ hne, gm_ne _ _ _ hne] at hl
  simp (disch := omega) [e1]
  rw [ev_loop (N + 1) (by simp) hl (by omega)]
  simp (disch := omega)

theorem refwords_nil {SP : SProg} {n13 : Nat} (h13 : SP.fn n13 = some s13) (k : Nat) (M : Mem) (big : Bool) :
    callFn SP (k + 1) n13 [.str [], .bool big] M = some (.tuple [.slice none 0 0, .int .i64 0], [], M) := by
  rw [call_fn (h13.trans rfl) (by simp)]
  have hl := l13_0 (SP := SP) k M big [] 0 rfl (by omega) 0 0 1 (Nat.zero_add _) (Nat.lt_succ_self _)
  simp only [tab_zero, List.map_nil, gv_nil, gm_nil] at hl
  simp (disch := omega)
  rw [ev_loop 1 (by simp) hl (by omega)]
  simp (disch := omega)

theorem refwords_bad {SP : SProg} {n13 : Nat} (h13 : SP.fn n13 = some s13) (k : Nat) (M : Mem) (big : Bool) (s : List UInt8) (hs : s.length % 4 ≠ 0) :
    callFn SP (k + 1) n13 [.str s, .bool big] M = some (.tuple [.slice none 0 0, .int .i64 7], [], M) := by
  rw [call_fn (h13.trans rfl) (by simp)]
  have e1 : ((s.length : Int) % 4) ≠ 0 := by omega
  simp (disch := omega) [e1]




end Go.Det.W
