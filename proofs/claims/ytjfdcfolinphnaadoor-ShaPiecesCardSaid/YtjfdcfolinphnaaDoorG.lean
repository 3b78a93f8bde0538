import Derived.Test.YtjfdcfolinphnaaDoorProg
import Derived.Test.YtjfdcfolinphnaaDoorDetQ
import Derived.KernelRfl
import Derived.Test.YtjfdcfolinphnaaDoorShelf
set_option maxRecDepth 100000
namespace Go.Proofs.YtjfdcfolinphnaaDoor
open Go.Det

def quiet : Nat → Bool := (fun n => !([23, 43] : List Nat).contains n)

-- 3 calls [15, 16, 17]
def s3 : SFunc := ⟨
  .seq (
    .region [
      ⟨some 2, none, [], .p (.mv (.c (.bool false)))⟩]) (
  .seq (
    .region [
      ⟨some 3, none, [], .p (.mv (.t 0))⟩,
      ⟨some 4, none, [], .p (.mv (.t 0))⟩,
      ⟨some 5, none, [], .p (.lenV false (.t 4))⟩,
      ⟨some 6, none, [], .p (.minmax false (.t 5) (.c (.int .i64 1000)))⟩,
      ⟨some 7, none, [], .p (.slcStr (.t 3) none (some (.t 6)))⟩,
      ⟨some 0, none, [], .p (.mv (.t 7))⟩]) (
  .seq (
    .region [
      ⟨some 8, none, [], .call 8000 4 true (.f 15) []⟩,
      ⟨some 9, none, [], .p (.mv (.t 8))⟩,
      ⟨some 10, some (9, true), [], .p (.mv (.t 0))⟩,
      ⟨some 11, some (9, true), [], .call 8012 4 true (.f 16) [.t 10]⟩,
      ⟨some 12, some (9, true), [], .p (.mv (.t 0))⟩,
      ⟨some 13, some (9, true), [], .call 8020 4 true (.f 17) [.t 12]⟩,
      ⟨some 14, some (9, true), [], .p (.bin .eql (.t 11) (.t 13))⟩,
      ⟨some 15, none, [], .p (.pick (.t 9) (.t 14) (.c (.bool false)))⟩,
      ⟨some 2, none, [], .p (.mv (.t 15))⟩]) (
  .ret))),
  16, [Sum.inl 2]⟩

theorem c3 : cFunc Tryd.prog quiet Tryd.f3 [] = some s3 := by kernel_rfl

-- 4 calls [15, 16, 17]
abbrev k4_0 : List Nat := [0, 1, 18]
abbrev a4_0 : List Nat := [4]
abbrev e4_0 (v0 v1 v18 : AV) : Env := [v0, v1, .dead, .dead, .dead, .dead, .dead, .dead, .dead, .dead, .dead, .dead, .dead, .dead, .dead, .dead, .dead, .dead, v18, .dead, .dead, .dead, .dead, .dead, .dead, .dead, .dead, .dead, .dead, .dead, .dead, .dead, .dead, .dead, .dead, .dead, .dead, .dead, .dead, .dead, .dead, .dead]
abbrev x4_0 (v4 : AV) : Env := [.dead, .dead, .dead, .dead, v4, .dead, .dead, .dead, .dead, .dead, .dead, .dead, .dead, .dead, .dead, .dead, .dead, .dead, .dead, .dead, .dead, .dead, .dead, .dead, .dead, .dead, .dead, .dead, .dead, .dead, .dead, .dead, .dead, .dead, .dead, .dead, .dead, .dead, .dead, .dead, .dead, .dead]
def s4_b0 : SCode :=
  .seq (
    .region [
      ⟨some 19, none, [], .p (.bin .lss (.t 18) (.c (.int .i64 12)))⟩]) (
  .seq (
    .cond (.t 19) (
      .skip) (
      .exit 0)) (
  .seq (
    .block 1 (
      .seq (
        .region [
          ⟨some 20, none, [], .p (.mv (.t 18))⟩,
          ⟨some 5, none, [], .p (.mv (.t 20))⟩]) (
      .seq (
        .region [
          ⟨some 21, none, [], .p (.mv (.t 0))⟩,
          ⟨some 22, none, [], .p (.mv (.t 1))⟩,
          ⟨some 23, none, [], .p (.mv (.t 5))⟩,
          ⟨some 24, none, [], .p (.bin .add (.t 22) (.t 23))⟩,
          ⟨some 25, none, [], .p (.slcStr (.t 21) none (some (.t 24)))⟩,
          ⟨some 26, none, [], .call 24020 4 true (.f 16) [.t 25]⟩,
          ⟨some 6, none, [], .p (.mv (.t 26))⟩]) (
      .seq (
        .region [
          ⟨some 27, none, [], .p (.mv (.t 6))⟩,
          ⟨some 28, none, [], .p (.lenV false (.t 27))⟩,
          ⟨some 29, none, [], .p (.bin .neq (.t 28) (.c (.int .i64 32)))⟩,
          ⟨some 30, none, [], .p (.mv (.t 29))⟩,
          ⟨some 31, some (30, false), [], .p (.mv (.t 6))⟩,
          ⟨some 32, some (30, false), [], .p (.mv (.t 0))⟩,
          ⟨some 33, some (30, false), [], .p (.mv (.t 1))⟩,
          ⟨some 34, some (30, false), [], .p (.mv (.t 5))⟩,
          ⟨some 35, some (30, false), [], .p (.bin .add (.t 33) (.t 34))⟩,
          ⟨some 36, some (30, false), [], .p (.slcStr (.t 32) none (some (.t 35)))⟩,
          ⟨some 37, some (30, false), [], .call 28040 4 true (.f 17) [.t 36]⟩,
          ⟨some 38, some (30, false), [], .p (.bin .neq (.t 31) (.t 37))⟩,
          ⟨some 39, none, [], .p (.pick (.t 30) (.c (.bool true)) (.t 38))⟩]) (
      .cond (.t 39) (
        .seq (
          .region [
            ⟨some 4, none, [], .p (.mv (.c (.bool false)))⟩]) (
        .ret)) (
        .skip)))))) (
  .region [
    ⟨some 40, none, [], .p (.bin .add (.t 18) (.c (.int .i64 1)))⟩,
    ⟨some 18, none, [], .p (.mv (.t 40))⟩])))

def s4 : SFunc := ⟨
  .seq (
    .region [
      ⟨some 4, none, [], .p (.mv (.c (.bool false)))⟩]) (
  .seq (
    .region [
      ⟨some 7, none, [], .p (.mv (.t 1))⟩,
      ⟨some 8, none, [], .p (.minmax true (.c (.int .i64 0)) (.t 7))⟩,
      ⟨some 9, none, [], .p (.bin .rem (.t 8) (.c (.int .i64 500)))⟩,
      ⟨some 1, none, [], .p (.mv (.t 9))⟩]) (
  .seq (
    .region [
      ⟨some 10, none, [], .p (.mv (.t 0))⟩,
      ⟨some 11, none, [], .p (.mv (.t 0))⟩,
      ⟨some 12, none, [], .p (.lenV false (.t 11))⟩,
      ⟨some 13, none, [], .p (.minmax false (.t 12) (.c (.int .i64 600)))⟩,
      ⟨some 14, none, [], .p (.slcStr (.t 10) none (some (.t 13)))⟩,
      ⟨some 15, none, [], .a 8020 (.mkSlice 1 1 [byteAV 0] (.c (.int .i64 600)) (.c (.int .i64 600)))⟩,
      ⟨some 16, none, [], .r (.toStr (.t 15))⟩,
      ⟨some 17, none, [], .p (.bin .add (.t 14) (.t 16))⟩,
      ⟨some 0, none, [], .p (.mv (.t 17))⟩]) (
  .seq (
    .seq (
      .region [
        ⟨some 18, none, [], .p (.mv (.c (.int .i64 0)))⟩]) (
    .block 0 (
      .loop k4_0 a4_0 s4_b0))) (
  .seq (
    .region [
      ⟨some 41, none, [], .call 40000 4 true (.f 15) []⟩,
      ⟨some 4, none, [], .p (.mv (.t 41))⟩]) (
  .ret))))),
  42, [Sum.inl 4]⟩

theorem c4 : cFunc Tryd.prog quiet Tryd.f4 [[0, 1, 18], [4]] = some s4 := by kernel_rfl

-- 5 calls [15, 18, 19, 20, 21]
def s5 : SFunc := ⟨
  .seq (
    .region [
      ⟨some 2, none, [], .p (.mv (.c (.bool false)))⟩]) (
  .seq (
    .region [
      ⟨some 3, none, [], .p (.mv (.t 0))⟩,
      ⟨some 4, none, [], .p (.mv (.t 0))⟩,
      ⟨some 5, none, [], .p (.lenV false (.t 4))⟩,
      ⟨some 6, none, [], .p (.minmax false (.t 5) (.c (.int .i64 500)))⟩,
      ⟨some 7, none, [], .p (.slcStr (.t 3) none (some (.t 6)))⟩,
      ⟨some 0, none, [], .p (.mv (.t 7))⟩]) (
  .seq (
    .region [
      ⟨some 8, none, [], .call 8000 4 true (.f 15) []⟩,
      ⟨some 9, none, [], .p (.mv (.t 8))⟩,
      ⟨some 10, some (9, true), [], .p (.mv (.t 0))⟩,
      ⟨some 11, some (9, true), [], .call 8012 4 true (.f 18) [.t 10]⟩,
      ⟨some 12, some (9, true), [], .p (.mv (.t 0))⟩,
      ⟨some 13, some (9, true), [], .call 8020 4 true (.f 19) [.c (byteAV 0), .t 12]⟩,
      ⟨some 14, some (9, true), [], .p (.bin .eql (.t 11) (.t 13))⟩,
      ⟨some 15, none, [], .p (.pick (.t 9) (.t 14) (.c (.bool false)))⟩,
      ⟨some 16, none, [], .p (.mv (.t 15))⟩,
      ⟨some 17, some (16, true), [], .p (.mv (.t 0))⟩,
      ⟨some 18, some (16, true), [], .call 8040 4 true (.f 20) [.t 17]⟩,
      ⟨some 19, some (16, true), [], .p (.mv (.t 0))⟩,
      ⟨some 20, some (16, true), [], .call 8048 4 true (.f 19) [.c (byteAV 1), .t 19]⟩,
      ⟨some 21, some (16, true), [], .p (.bin .eql (.t 18) (.t 20))⟩,
      ⟨some 22, none, [], .p (.pick (.t 16) (.t 21) (.c (.bool false)))⟩,
      ⟨some 23, none, [], .p (.mv (.t 22))⟩,
      ⟨some 24, some (23, true), [], .p (.mv (.t 0))⟩,
      ⟨some 25, some (23, true), [], .call 8068 4 true (.f 21) [.t 24]⟩,
      ⟨some 26, some (23, true), [], .p (.mv (.t 0))⟩,
      ⟨some 27, some (23, true), [], .call 8076 4 true (.f 19) [.c (byteAV 2), .t 26]⟩,
      ⟨some 28, some (23, true), [], .p (.bin .eql (.t 25) (.t 27))⟩,
      ⟨some 29, none, [], .p (.pick (.t 23) (.t 28) (.c (.bool false)))⟩,
      ⟨some 2, none, [], .p (.mv (.t 29))⟩]) (
  .ret))),
  30, [Sum.inl 2]⟩

theorem c5 : cFunc Tryd.prog quiet Tryd.f5 [] = some s5 := by kernel_rfl

-- 6 calls [16, 22, 23, 24, 25, 26]
abbrev k6_0 : List Nat := [0, 5, 6, 20, 21, 22]
abbrev a6_0 : List Nat := [0, 4, 5, 6]
abbrev e6_0 (v0 v5 v6 v20 v21 v22 : AV) : Env := [v0, .dead, .dead, .dead, .dead, v5, v6, .dead, .dead, .dead, .dead, .dead, .dead, .dead, .dead, .dead, .dead, .dead, .dead, .dead, v20, v21, v22, .dead, .dead, .dead, .dead, .dead, .dead, .dead, .dead, .dead, .dead, .dead, .dead, .dead, .dead, .dead, .dead, .dead, .dead, .dead, .dead, .dead, .dead, .dead, .dead, .dead, .dead, .dead, .dead, .dead, .dead, .dead, .dead, .dead, .dead, .dead, .dead, .dead, .dead, .dead, .dead, .dead, .dead, .dead, .dead, .dead, .dead, .dead, .dead, .dead, .dead, .dead, .dead, .dead, .dead, .dead, .dead]
abbrev x6_0 (v0 v4 v5 v6 : AV) : Env := [v0, .dead, .dead, .dead, v4, v5, v6, .dead, .dead, .dead, .dead, .dead, .dead, .dead, .dead, .dead, .dead, .dead, .dead, .dead, .dead, .dead, .dead, .dead, .dead, .dead, .dead, .dead, .dead, .dead, .dead, .dead, .dead, .dead, .dead, .dead, .dead, .dead, .dead, .dead, .dead, .dead, .dead, .dead, .dead, .dead, .dead, .dead, .dead, .dead, .dead, .dead, .dead, .dead, .dead, .dead, .dead, .dead, .dead, .dead, .dead, .dead, .dead, .dead, .dead, .dead, .dead, .dead, .dead, .dead, .dead, .dead, .dead, .dead, .dead, .dead, .dead, .dead, .dead]
def s6_b0 : SCode :=
  .seq (
    .region [
      ⟨some 23, none, [], .p (.bin .lss (.t 22) (.t 21))⟩]) (
  .seq (
    .cond (.t 23) (
      .skip) (
      .exit 0)) (
  .seq (
    .block 1 (
      .seq (
        .region [
          ⟨some 24, none, [], .p (.iaddrS 1 (.t 20) (.t 22))⟩,
          ⟨some 25, none, [], .r (.load1 (.t 24))⟩,
          ⟨some 8, none, [], .p (.mv (.t 25))⟩]) (
      .seq (
        .region [
          ⟨some 26, none, [], .p (.mv (.t 8))⟩,
          ⟨some 27, none, [], .p (.minmax true (.c (.int .i64 0)) (.t 26))⟩,
          ⟨some 28, none, [], .p (.bin .rem (.t 27) (.c (.int .i64 100)))⟩,
          ⟨some 29, none, [], .p (.mv (.t 0))⟩,
          ⟨some 30, none, [], .p (.lenV false (.t 29))⟩,
          ⟨some 31, none, [], .p (.mv (.t 6))⟩,
          ⟨some 32, none, [], .p (.bin .sub (.t 30) (.t 31))⟩,
          ⟨some 33, none, [], .p (.minmax false (.t 28) (.t 32))⟩,
          ⟨some 9, none, [], .p (.mv (.t 33))⟩]) (
      .seq (
        .region [
          ⟨some 34, none, [], .p (.mv (.t 5))⟩,
          ⟨some 35, none, [], .p (.mv (.t 0))⟩,
          ⟨some 36, none, [], .p (.mv (.t 6))⟩,
          ⟨some 37, none, [], .p (.mv (.t 6))⟩,
          ⟨some 38, none, [], .p (.mv (.t 9))⟩,
          ⟨some 39, none, [], .p (.bin .add (.t 37) (.t 38))⟩,
          ⟨some 40, none, [], .p (.slcStr (.t 35) (some (.t 36)) (some (.t 39)))⟩,
          ⟨some 41, none, [], .call 32028 4 false (.f 23) [.t 34, .t 40]⟩]) (
      .seq (
        .region [
          ⟨some 42, none, [], .p (.mv (.t 6))⟩,
          ⟨some 43, none, [], .p (.mv (.t 9))⟩,
          ⟨some 44, none, [], .p (.bin .add (.t 42) (.t 43))⟩,
          ⟨some 6, none, [], .p (.mv (.t 44))⟩]) (
      .seq (
        .region [
          ⟨some 45, none, [], .p (.mv (.t 5))⟩,
          ⟨some 46, none, [], .call 40004 4 true (.f 24) [.t 45]⟩,
          ⟨some 47, none, [], .p (.mv (.t 0))⟩,
          ⟨some 48, none, [], .p (.mv (.t 6))⟩,
          ⟨some 49, none, [], .p (.slcStr (.t 47) none (some (.t 48)))⟩,
          ⟨some 50, none, [], .call 40020 4 true (.f 16) [.t 49]⟩,
          ⟨some 51, none, [], .p (.bin .neq (.t 46) (.t 50))⟩,
          ⟨some 52, none, [], .p (.mv (.t 51))⟩,
          ⟨some 53, some (52, false), [], .p (.mv (.t 5))⟩,
          ⟨some 54, some (52, false), [], .call 40036 4 true (.f 25) [.t 53]⟩,
          ⟨some 55, some (52, false), [], .p (.mv (.t 6))⟩,
          ⟨some 56, some (52, false), [], .p (.bin .neq (.t 54) (.t 55))⟩,
          ⟨some 57, none, [], .p (.pick (.t 52) (.c (.bool true)) (.t 56))⟩]) (
      .cond (.t 57) (
        .seq (
          .region [
            ⟨some 4, none, [], .p (.mv (.c (.bool false)))⟩]) (
        .ret)) (
        .skip)))))))) (
  .region [
    ⟨some 58, none, [], .p (.bin .add (.t 22) (.c (.int .i64 1)))⟩,
    ⟨some 22, none, [], .p (.mv (.t 58))⟩])))

def s6 : SFunc := ⟨
  .seq (
    .region [
      ⟨some 4, none, [], .p (.mv (.c (.bool false)))⟩]) (
  .seq (
    .region [
      ⟨some 10, none, [], .p (.mv (.t 0))⟩,
      ⟨some 11, none, [], .p (.mv (.t 0))⟩,
      ⟨some 12, none, [], .p (.lenV false (.t 11))⟩,
      ⟨some 13, none, [], .p (.minmax false (.t 12) (.c (.int .i64 2000)))⟩,
      ⟨some 14, none, [], .p (.slcStr (.t 10) none (some (.t 13)))⟩,
      ⟨some 0, none, [], .p (.mv (.t 14))⟩]) (
  .seq (
    .region [
      ⟨some 15, none, [], .call 8000 4 true (.f 22) []⟩,
      ⟨some 5, none, [], .p (.mv (.t 15))⟩]) (
  .seq (
    .region [
      ⟨some 6, none, [], .p (.mv (.c (.int .i64 0)))⟩]) (
  .seq (
    .seq (
      .region [
        ⟨some 16, none, [], .p (.mv (.t 1))⟩,
        ⟨some 17, none, [], .p (.mv (.t 1))⟩,
        ⟨some 18, none, [], .p (.lenV true (.t 17))⟩,
        ⟨some 19, none, [], .p (.minmax false (.t 18) (.c (.int .i64 40)))⟩,
        ⟨some 20, none, [], .p (.slcS 1 (.t 16) none (some (.t 19)) none)⟩,
        ⟨some 21, none, [], .p (.lenV true (.t 20))⟩,
        ⟨some 22, none, [], .p (.mv (.c (.int .i64 0)))⟩]) (
    .block 0 (
      .loop k6_0 a6_0 s6_b0))) (
  .seq (
    .region [
      ⟨some 59, none, [], .p (.mv (.t 5))⟩,
      ⟨some 60, none, [], .p (.mv (.t 0))⟩,
      ⟨some 61, none, [], .p (.mv (.t 6))⟩,
      ⟨some 62, none, [], .p (.slcStr (.t 60) (some (.t 61)) none)⟩,
      ⟨some 63, none, [], .call 52016 4 false (.f 23) [.t 59, .t 62]⟩]) (
  .seq (
    .region [
      ⟨some 64, none, [], .call 56000 4 true (.f 26) []⟩,
      ⟨some 65, none, [], .p (.mv (.t 64))⟩,
      ⟨some 66, some (65, true), [], .p (.mv (.t 5))⟩,
      ⟨some 67, some (65, true), [], .call 56012 4 true (.f 24) [.t 66]⟩,
      ⟨some 68, some (65, true), [], .p (.mv (.t 0))⟩,
      ⟨some 69, some (65, true), [], .call 56020 4 true (.f 16) [.t 68]⟩,
      ⟨some 70, some (65, true), [], .p (.bin .eql (.t 67) (.t 69))⟩,
      ⟨some 71, none, [], .p (.pick (.t 65) (.t 70) (.c (.bool false)))⟩,
      ⟨some 72, none, [], .p (.mv (.t 71))⟩,
      ⟨some 73, some (72, true), [], .p (.mv (.t 5))⟩,
      ⟨some 74, some (72, true), [], .call 56040 4 true (.f 25) [.t 73]⟩,
      ⟨some 75, some (72, true), [], .p (.mv (.t 0))⟩,
      ⟨some 76, some (72, true), [], .p (.lenV false (.t 75))⟩,
      ⟨some 77, some (72, true), [], .p (.bin .eql (.t 74) (.t 76))⟩,
      ⟨some 78, none, [], .p (.pick (.t 72) (.t 77) (.c (.bool false)))⟩,
      ⟨some 4, none, [], .p (.mv (.t 78))⟩]) (
  .ret))))))),
  79, [Sum.inl 4]⟩

theorem c6 : cFunc Tryd.prog quiet Tryd.f6 [[0, 5, 6, 20, 21, 22], [0, 4, 5, 6]] = some s6 := by kernel_rfl

-- 7 calls [16, 18, 20, 21, 22, 23, 24, 25, 26]
def s7 : SFunc := ⟨
  .seq (
    .region [
      ⟨some 4, none, [], .p (.mv (.c (.bool false)))⟩]) (
  .seq (
    .region [
      ⟨some 8, none, [], .p (.mv (.t 0))⟩,
      ⟨some 9, none, [], .p (.mv (.t 0))⟩,
      ⟨some 10, none, [], .p (.lenV false (.t 9))⟩,
      ⟨some 11, none, [], .p (.minmax false (.t 10) (.c (.int .i64 300)))⟩,
      ⟨some 12, none, [], .p (.slcStr (.t 8) none (some (.t 11)))⟩,
      ⟨some 13, none, [], .p (.mv (.t 1))⟩,
      ⟨some 14, none, [], .p (.mv (.t 1))⟩,
      ⟨some 15, none, [], .p (.lenV false (.t 14))⟩,
      ⟨some 16, none, [], .p (.minmax false (.t 15) (.c (.int .i64 300)))⟩,
      ⟨some 17, none, [], .p (.slcStr (.t 13) none (some (.t 16)))⟩,
      ⟨some 0, none, [], .p (.mv (.t 12))⟩,
      ⟨some 1, none, [], .p (.mv (.t 17))⟩]) (
  .seq (
    .region [
      ⟨some 18, none, [], .call 8000 4 true (.f 22) []⟩,
      ⟨some 19, none, [], .call 8004 4 true (.f 22) []⟩,
      ⟨some 5, none, [], .p (.mv (.t 18))⟩,
      ⟨some 6, none, [], .p (.mv (.t 19))⟩]) (
  .seq (
    .region [
      ⟨some 20, none, [], .p (.mv (.t 5))⟩,
      ⟨some 21, none, [], .p (.mv (.t 0))⟩,
      ⟨some 22, none, [], .call 12008 4 false (.f 23) [.t 20, .t 21]⟩]) (
  .seq (
    .region [
      ⟨some 23, none, [], .p (.mv (.t 6))⟩,
      ⟨some 24, none, [], .p (.mv (.t 1))⟩,
      ⟨some 25, none, [], .call 16008 4 false (.f 23) [.t 23, .t 24]⟩]) (
  .seq (
    .region [
      ⟨some 26, none, [], .p (.mv (.t 5))⟩,
      ⟨some 27, none, [], .call 20004 4 false (.f 23) [.t 26, .c (.str [120])]⟩]) (
  .seq (
    .region [
      ⟨some 7, none, [], .p (.mv (.c (.ptr none)))⟩]) (
  .seq (
    .region [
      ⟨some 28, none, [], .p (.mv (.t 7))⟩,
      ⟨some 29, none, [], .p (.mv (.t 0))⟩,
      ⟨some 30, none, [], .call 28008 4 false (.f 23) [.t 28, .t 29]⟩]) (
  .seq (
    .region [
      ⟨some 31, none, [], .call 32000 4 true (.f 26) []⟩,
      ⟨some 32, none, [], .p (.mv (.t 31))⟩,
      ⟨some 33, some (32, true), [], .p (.mv (.t 5))⟩,
      ⟨some 34, some (32, true), [], .call 32012 4 true (.f 24) [.t 33]⟩,
      ⟨some 35, some (32, true), [], .p (.mv (.t 0))⟩,
      ⟨some 36, some (32, true), [], .p (.bin .add (.t 35) (.c (.str [120])))⟩,
      ⟨some 37, some (32, true), [], .call 32024 4 true (.f 16) [.t 36]⟩,
      ⟨some 38, some (32, true), [], .p (.bin .eql (.t 34) (.t 37))⟩,
      ⟨some 39, none, [], .p (.pick (.t 32) (.t 38) (.c (.bool false)))⟩,
      ⟨some 40, none, [], .p (.mv (.t 39))⟩,
      ⟨some 41, some (40, true), [], .p (.mv (.t 6))⟩,
      ⟨some 42, some (40, true), [], .call 32044 4 true (.f 24) [.t 41]⟩,
      ⟨some 43, some (40, true), [], .p (.mv (.t 1))⟩,
      ⟨some 44, some (40, true), [], .call 32052 4 true (.f 16) [.t 43]⟩,
      ⟨some 45, some (40, true), [], .p (.bin .eql (.t 42) (.t 44))⟩,
      ⟨some 46, none, [], .p (.pick (.t 40) (.t 45) (.c (.bool false)))⟩,
      ⟨some 47, none, [], .p (.mv (.t 46))⟩,
      ⟨some 48, some (47, true), [], .p (.mv (.t 0))⟩,
      ⟨some 49, some (47, true), [], .call 32072 4 true (.f 18) [.t 48]⟩,
      ⟨some 50, some (47, true), [], .p (.mv (.t 0))⟩,
      ⟨some 51, some (47, true), [], .p (.bin .add (.c (.str [0])) (.t 50))⟩,
      ⟨some 52, some (47, true), [], .call 32084 4 true (.f 16) [.t 51]⟩,
      ⟨some 53, some (47, true), [], .p (.bin .eql (.t 49) (.t 52))⟩,
      ⟨some 54, none, [], .p (.pick (.t 47) (.t 53) (.c (.bool false)))⟩,
      ⟨some 55, none, [], .p (.mv (.t 54))⟩,
      ⟨some 56, some (55, true), [], .p (.mv (.t 0))⟩,
      ⟨some 57, some (55, true), [], .call 32104 4 true (.f 20) [.t 56]⟩,
      ⟨some 58, some (55, true), [], .p (.mv (.t 0))⟩,
      ⟨some 59, some (55, true), [], .p (.bin .add (.c (.str [1])) (.t 58))⟩,
      ⟨some 60, some (55, true), [], .call 32116 4 true (.f 16) [.t 59]⟩,
      ⟨some 61, some (55, true), [], .p (.bin .eql (.t 57) (.t 60))⟩,
      ⟨some 62, none, [], .p (.pick (.t 55) (.t 61) (.c (.bool false)))⟩,
      ⟨some 63, none, [], .p (.mv (.t 62))⟩,
      ⟨some 64, some (63, true), [], .p (.mv (.t 0))⟩,
      ⟨some 65, some (63, true), [], .call 32136 4 true (.f 21) [.t 64]⟩,
      ⟨some 66, some (63, true), [], .p (.mv (.t 0))⟩,
      ⟨some 67, some (63, true), [], .p (.bin .add (.c (.str [2])) (.t 66))⟩,
      ⟨some 68, some (63, true), [], .call 32148 4 true (.f 16) [.t 67]⟩,
      ⟨some 69, some (63, true), [], .p (.bin .eql (.t 65) (.t 68))⟩,
      ⟨some 70, none, [], .p (.pick (.t 63) (.t 69) (.c (.bool false)))⟩,
      ⟨some 71, none, [], .p (.mv (.t 70))⟩,
      ⟨some 72, some (71, true), [], .p (.mv (.t 7))⟩,
      ⟨some 73, some (71, true), [], .call 32168 4 true (.f 24) [.t 72]⟩,
      ⟨some 74, some (71, true), [], .p (.bin .eql (.t 73) (.c (.str [])))⟩,
      ⟨some 75, none, [], .p (.pick (.t 71) (.t 74) (.c (.bool false)))⟩,
      ⟨some 76, none, [], .p (.mv (.t 75))⟩,
      ⟨some 77, some (76, true), [], .p (.mv (.t 7))⟩,
      ⟨some 78, some (76, true), [], .call 32188 4 true (.f 25) [.t 77]⟩,
      ⟨some 79, some (76, true), [], .p (.bin .eql (.t 78) (.c (.int .i64 0)))⟩,
      ⟨some 80, none, [], .p (.pick (.t 76) (.t 79) (.c (.bool false)))⟩,
      ⟨some 4, none, [], .p (.mv (.t 80))⟩]) (
  .ret))))))))),
  81, [Sum.inl 4]⟩

theorem c7 : cFunc Tryd.prog quiet Tryd.f7 [] = some s7 := by kernel_rfl

-- 15 calls [16]
def s15 : SFunc := ⟨
  .seq (
    .region [
      ⟨some 0, none, [], .p (.mv (.c (.bool false)))⟩]) (
  .seq (
    .region [
      ⟨some 1, none, [], .call 4000 4 true (.f 16) [.c (.str [97, 98, 99])]⟩,
      ⟨some 2, none, [], .p (.bin .eql (.t 1) (.c (.str [186, 120, 22, 191, 143, 1, 207, 234, 65, 65, 64, 222, 93, 174, 34, 35, 176, 3, 97, 163, 150, 23, 122, 156, 180, 16, 255, 97, 242, 0, 21, 173])))⟩,
      ⟨some 0, none, [], .p (.mv (.t 2))⟩]) (
  .ret)),
  3, [Sum.inl 0]⟩

theorem c15 : cFunc Tryd.prog quiet Tryd.f15 [] = some s15 := by kernel_rfl

-- 16 calls [22, 23, 24]
def s16 : SFunc := ⟨
  .seq (
    .region [
      ⟨some 2, none, [], .p (.mv (.c (.str [])))⟩]) (
  .seq (
    .region [
      ⟨some 4, none, [], .call 4000 4 true (.f 22) []⟩,
      ⟨some 3, none, [], .p (.mv (.t 4))⟩]) (
  .seq (
    .region [
      ⟨some 5, none, [], .p (.mv (.t 3))⟩,
      ⟨some 6, none, [], .p (.mv (.t 0))⟩,
      ⟨some 7, none, [], .call 8008 4 false (.f 23) [.t 5, .t 6]⟩]) (
  .seq (
    .region [
      ⟨some 8, none, [], .p (.mv (.t 3))⟩,
      ⟨some 9, none, [], .call 12004 4 true (.f 24) [.t 8]⟩,
      ⟨some 2, none, [], .p (.mv (.t 9))⟩]) (
  .ret)))),
  10, [Sum.inl 2]⟩

theorem c16 : cFunc Tryd.prog quiet Tryd.f16 [] = some s16 := by kernel_rfl

-- 17 calls [40, 41, 42]
abbrev k17_1 : List Nat := [4, 6, 7]
abbrev a17_1 : List Nat := [6]
abbrev e17_1 (v4 v6 v7 : AV) : Env := [.dead, .dead, .dead, .dead, v4, .dead, v6, v7, .dead, .dead, .dead, .dead, .dead, .dead, .dead, .dead, .dead, .dead, .dead, .dead, .dead, .dead, .dead, .dead, .dead, .dead, .dead, .dead, .dead, .dead, .dead, .dead, .dead, .dead, .dead, .dead]
abbrev x17_1 (v6 : AV) : Env := [.dead, .dead, .dead, .dead, .dead, .dead, v6, .dead, .dead, .dead, .dead, .dead, .dead, .dead, .dead, .dead, .dead, .dead, .dead, .dead, .dead, .dead, .dead, .dead, .dead, .dead, .dead, .dead, .dead, .dead, .dead, .dead, .dead, .dead, .dead, .dead]
def s17_b1 : SCode :=
  .seq (
    .seq (
      .region [
        ⟨some 24, none, [], .p (.mv (.t 7))⟩,
        ⟨some 25, none, [], .p (.bin .lss (.t 24) (.c (.int .i64 8)))⟩]) (
    .cond (.t 25) (
      .skip) (
      .exit 2))) (
  .seq (
    .block 3 (
      .region [
        ⟨some 28, none, [], .p (.mv (.t 6))⟩,
        ⟨some 29, none, [], .p (.mv (.t 7))⟩,
        ⟨some 30, none, [], .p (.iaddrA 8 1 (.t 4) (.t 29))⟩,
        ⟨some 31, none, [], .r (.load1 (.t 30))⟩,
        ⟨some 32, none, [], .a 44016 (.buildS 1 1 [u32 0#32] [(0, 1, .t 31)])⟩,
        ⟨some 33, none, [], .w (.append 44020 1 4 (.t 28) (.t 32))⟩,
        ⟨some 6, none, [], .p (.mv (.t 33))⟩])) (
  .region [
    ⟨some 26, none, [], .p (.mv (.t 7))⟩,
    ⟨some 27, none, [], .p (.bin .add (.t 26) (.c (.int .i64 1)))⟩,
    ⟨some 7, none, [], .p (.mv (.t 27))⟩]))

abbrev k17_0 : List Nat := [3, 4, 5]
abbrev a17_0 : List Nat := [4]
abbrev e17_0 (v3 v4 v5 : AV) : Env := [.dead, .dead, .dead, v3, v4, v5, .dead, .dead, .dead, .dead, .dead, .dead, .dead, .dead, .dead, .dead, .dead, .dead, .dead, .dead, .dead, .dead, .dead, .dead, .dead, .dead, .dead, .dead, .dead, .dead, .dead, .dead, .dead, .dead, .dead, .dead]
abbrev x17_0 (v4 : AV) : Env := [.dead, .dead, .dead, .dead, v4, .dead, .dead, .dead, .dead, .dead, .dead, .dead, .dead, .dead, .dead, .dead, .dead, .dead, .dead, .dead, .dead, .dead, .dead, .dead, .dead, .dead, .dead, .dead, .dead, .dead, .dead, .dead, .dead, .dead, .dead, .dead]
def s17_b0 : SCode :=
  .seq (
    .seq (
      .region [
        ⟨some 11, none, [], .p (.mv (.t 5))⟩,
        ⟨some 12, none, [], .p (.mv (.t 3))⟩,
        ⟨some 13, none, [], .p (.lenV false (.t 12))⟩,
        ⟨some 14, none, [], .p (.bin .lss (.t 11) (.t 13))⟩]) (
    .cond (.t 14) (
      .skip) (
      .exit 0))) (
  .seq (
    .block 1 (
      .region [
        ⟨some 17, none, [], .r (.loadN 8 (.t 4))⟩,
        ⟨some 18, none, [], .p (.mv (.t 3))⟩,
        ⟨some 19, none, [], .p (.mv (.t 5))⟩,
        ⟨some 20, none, [], .p (.mv (.t 5))⟩,
        ⟨some 21, none, [], .p (.bin .add (.t 20) (.c (.int .i64 64)))⟩,
        ⟨some 22, none, [], .p (.slcStr (.t 18) (some (.t 19)) (some (.t 21)))⟩,
        ⟨some 23, none, [], .call 24024 4 true (.f 41) [.t 17, .t 22]⟩,
        ⟨none, none, [], .w (.storeN 8 (.t 4) (.t 23))⟩])) (
  .region [
    ⟨some 15, none, [], .p (.mv (.t 5))⟩,
    ⟨some 16, none, [], .p (.bin .add (.t 15) (.c (.int .i64 64)))⟩,
    ⟨some 5, none, [], .p (.mv (.t 16))⟩]))

def s17 : SFunc := ⟨
  .seq (
    .region [
      ⟨some 2, none, [], .p (.mv (.c (.str [])))⟩]) (
  .seq (
    .region [
      ⟨some 8, none, [], .p (.mv (.t 0))⟩,
      ⟨some 9, none, [], .call 4004 4 true (.f 40) [.t 8]⟩,
      ⟨some 3, none, [], .p (.mv (.t 9))⟩]) (
  .seq (
    .region [
      ⟨some 10, none, [], .r (.loadN 8 (.g 0 8))⟩,
      ⟨some 4, none, [], .a 8004 (.alloc [u32 0#32, u32 0#32, u32 0#32, u32 0#32, u32 0#32, u32 0#32, u32 0#32, u32 0#32])⟩,
      ⟨none, none, [], .w (.storeN 8 (.t 4) (.t 10))⟩]) (
  .seq (
    .seq (
      .region [
        ⟨some 5, none, [], .p (.mv (.c (.int .i64 0)))⟩]) (
    .block 0 (
      .loop k17_0 a17_0 s17_b0))) (
  .seq (
    .region [
      ⟨some 6, none, [], .p (.mv (.c (.slice none 0 0)))⟩]) (
  .seq (
    .seq (
      .region [
        ⟨some 7, none, [], .p (.mv (.c (.int .i64 0)))⟩]) (
    .block 2 (
      .loop k17_1 a17_1 s17_b1))) (
  .seq (
    .region [
      ⟨some 34, none, [], .p (.mv (.t 6))⟩,
      ⟨some 35, none, [], .call 48004 4 true (.f 42) [.t 34, .c (.bool true)]⟩,
      ⟨some 2, none, [], .p (.mv (.t 35))⟩]) (
  .ret))))))),
  36, [Sum.inl 2]⟩

theorem c17 : cFunc Tryd.prog quiet Tryd.f17 [[3, 4, 5], [4], [4, 6, 7], [6]] = some s17 := by kernel_rfl

-- 18 calls [16]
def s18 : SFunc := ⟨
  .seq (
    .region [
      ⟨some 2, none, [], .p (.mv (.c (.str [])))⟩]) (
  .seq (
    .region [
      ⟨some 3, none, [], .p (.mv (.t 0))⟩,
      ⟨some 4, none, [], .p (.bin .add (.c (.str [0])) (.t 3))⟩,
      ⟨some 5, none, [], .call 4008 4 true (.f 16) [.t 4]⟩,
      ⟨some 2, none, [], .p (.mv (.t 5))⟩]) (
  .ret)),
  6, [Sum.inl 2]⟩

theorem c18 : cFunc Tryd.prog quiet Tryd.f18 [] = some s18 := by kernel_rfl

-- 19 calls [17]
def s19 : SFunc := ⟨
  .seq (
    .region [
      ⟨some 4, none, [], .p (.mv (.c (.str [])))⟩]) (
  .seq (
    .region [
      ⟨some 5, none, [], .p (.mv (.t 0))⟩,
      ⟨some 6, none, [], .a 4004 (.buildS 1 1 [byteAV 0] [(0, 1, .t 5)])⟩,
      ⟨some 7, none, [], .r (.toStr (.t 6))⟩,
      ⟨some 8, none, [], .p (.mv (.t 1))⟩,
      ⟨some 9, none, [], .p (.bin .add (.t 7) (.t 8))⟩,
      ⟨some 10, none, [], .call 4020 4 true (.f 17) [.t 9]⟩,
      ⟨some 4, none, [], .p (.mv (.t 10))⟩]) (
  .ret)),
  11, [Sum.inl 4]⟩

theorem c19 : cFunc Tryd.prog quiet Tryd.f19 [] = some s19 := by kernel_rfl

-- 20 calls [16]
def s20 : SFunc := ⟨
  .seq (
    .region [
      ⟨some 2, none, [], .p (.mv (.c (.str [])))⟩]) (
  .seq (
    .region [
      ⟨some 3, none, [], .p (.mv (.t 0))⟩,
      ⟨some 4, none, [], .p (.bin .add (.c (.str [1])) (.t 3))⟩,
      ⟨some 5, none, [], .call 4008 4 true (.f 16) [.t 4]⟩,
      ⟨some 2, none, [], .p (.mv (.t 5))⟩]) (
  .ret)),
  6, [Sum.inl 2]⟩

theorem c20 : cFunc Tryd.prog quiet Tryd.f20 [] = some s20 := by kernel_rfl

-- 21 calls [16]
def s21 : SFunc := ⟨
  .seq (
    .region [
      ⟨some 2, none, [], .p (.mv (.c (.str [])))⟩]) (
  .seq (
    .region [
      ⟨some 3, none, [], .p (.mv (.t 0))⟩,
      ⟨some 4, none, [], .p (.bin .add (.c (.str [2])) (.t 3))⟩,
      ⟨some 5, none, [], .call 4008 4 true (.f 16) [.t 4]⟩,
      ⟨some 2, none, [], .p (.mv (.t 5))⟩]) (
  .ret)),
  6, [Sum.inl 2]⟩

theorem c21 : cFunc Tryd.prog quiet Tryd.f21 [] = some s21 := by kernel_rfl

-- 22 calls []
def s22 : SFunc := ⟨
  .seq (
    .region [
      ⟨some 0, none, [], .p (.mv (.c (.ptr none)))⟩]) (
  .seq (
    .region [
      ⟨some 1, none, [], .r (.loadN 8 (.g 1 8))⟩,
      ⟨some 2, none, [], .p (.build [u32 0#32, u32 0#32, u32 0#32, u32 0#32, u32 0#32, u32 0#32, u32 0#32, u32 0#32, .str [], .int .i64 0] [(0, 8, .t 1)])⟩,
      ⟨some 3, none, [], .a 4008 (.box (.t 2))⟩,
      ⟨some 0, none, [], .p (.mv (.t 3))⟩]) (
  .ret)),
  4, [Sum.inl 0]⟩

theorem c22 : cFunc Tryd.prog quiet Tryd.f22 [] = some s22 := by kernel_rfl

-- 23 calls [43]
abbrev k23_0 : List Nat := [0, 1]
abbrev a23_0 : List Nat := [0, 1]
abbrev e23_0 (v0 v1 : AV) : Env := [v0, v1, .dead, .dead, .dead, .dead, .dead, .dead, .dead, .dead, .dead, .dead, .dead, .dead, .dead, .dead, .dead, .dead, .dead, .dead, .dead, .dead, .dead, .dead, .dead, .dead, .dead, .dead, .dead, .dead, .dead, .dead, .dead, .dead]
abbrev x23_0 (v0 v1 : AV) : Env := [v0, v1, .dead, .dead, .dead, .dead, .dead, .dead, .dead, .dead, .dead, .dead, .dead, .dead, .dead, .dead, .dead, .dead, .dead, .dead, .dead, .dead, .dead, .dead, .dead, .dead, .dead, .dead, .dead, .dead, .dead, .dead, .dead, .dead]
def s23_b0 : SCode :=
  .seq (
    .seq (
      .region [
        ⟨some 21, none, [], .p (.mv (.t 1))⟩,
        ⟨some 22, none, [], .p (.lenV false (.t 21))⟩,
        ⟨some 23, none, [], .p (.bin .geq (.t 22) (.c (.int .i64 64)))⟩]) (
    .cond (.t 23) (
      .skip) (
      .exit 0))) (
  .block 1 (
    .seq (
      .region [
        ⟨some 24, none, [], .p (.mv (.t 0))⟩,
        ⟨some 25, none, [], .p (.mv (.t 1))⟩,
        ⟨some 26, none, [], .p (.slcStr (.t 25) none (some (.c (.int .i64 64))))⟩,
        ⟨some 27, none, [], .call 16012 4 false (.f 43) [.t 24, .t 26]⟩]) (
    .region [
      ⟨some 28, none, [], .p (.mv (.t 1))⟩,
      ⟨some 29, none, [], .p (.slcStr (.t 28) (some (.c (.int .i64 64))) none)⟩,
      ⟨some 1, none, [], .p (.mv (.t 29))⟩])))

def s23 : SFunc := ⟨
  .seq (
    .seq (
      .region [
        ⟨some 4, none, [], .p (.mv (.t 0))⟩,
        ⟨some 5, none, [], .p (.eqn .ptr false (.t 4) (.c (.ptr none)))⟩]) (
    .cond (.t 5) (
      .ret) (
      .skip))) (
  .seq (
    .region [
      ⟨some 6, none, [], .p (.mv (.t 0))⟩,
      ⟨some 7, none, [], .p (.nilChk (.t 6))⟩,
      ⟨some 8, none, [], .p (.faddr 9 (.t 7))⟩,
      ⟨some 9, none, [], .r (.load1 (.t 8))⟩,
      ⟨some 10, none, [], .p (.mv (.t 1))⟩,
      ⟨some 11, none, [], .p (.lenV false (.t 10))⟩,
      ⟨some 12, none, [], .p (.bin .add (.t 9) (.t 11))⟩,
      ⟨some 13, none, [], .p (.nilChk (.t 6))⟩,
      ⟨some 14, none, [], .p (.faddr 9 (.t 13))⟩,
      ⟨none, none, [], .w (.store1 (.t 14) (.t 12))⟩]) (
  .seq (
    .region [
      ⟨some 15, none, [], .p (.mv (.t 0))⟩,
      ⟨some 16, none, [], .p (.nilChk (.t 15))⟩,
      ⟨some 17, none, [], .p (.faddr 8 (.t 16))⟩,
      ⟨some 18, none, [], .r (.load1 (.t 17))⟩,
      ⟨some 19, none, [], .p (.mv (.t 1))⟩,
      ⟨some 20, none, [], .p (.bin .add (.t 18) (.t 19))⟩,
      ⟨some 1, none, [], .p (.mv (.t 20))⟩]) (
  .seq (
    .block 0 (
      .loop k23_0 a23_0 s23_b0)) (
  .region [
    ⟨some 30, none, [], .p (.mv (.t 0))⟩,
    ⟨some 31, none, [], .p (.mv (.t 1))⟩,
    ⟨some 32, none, [], .p (.nilChk (.t 30))⟩,
    ⟨some 33, none, [], .p (.faddr 8 (.t 32))⟩,
    ⟨none, none, [], .w (.store1 (.t 33) (.t 31))⟩])))),
  34, []⟩

theorem c23 : cFunc Tryd.prog quiet Tryd.f23 [[0, 1], [0, 1]] = some s23 := by kernel_rfl

-- 24 calls [23, 44, 45]
def s24 : SFunc := ⟨
  .seq (
    .region [
      ⟨some 2, none, [], .p (.mv (.c (.str [])))⟩]) (
  .seq (
    .seq (
      .region [
        ⟨some 6, none, [], .p (.mv (.t 0))⟩,
        ⟨some 7, none, [], .p (.eqn .ptr false (.t 6) (.c (.ptr none)))⟩]) (
    .cond (.t 7) (
      .seq (
        .region [
          ⟨some 2, none, [], .p (.mv (.c (.str [])))⟩]) (
      .ret)) (
      .skip))) (
  .seq (
    .region [
      ⟨some 8, none, [], .p (.mv (.t 0))⟩,
      ⟨some 9, none, [], .p (.nilChk (.t 8))⟩,
      ⟨some 10, none, [], .r (.loadN 10 (.t 9))⟩,
      ⟨some 3, none, [], .a 12012 (.alloc [u32 0#32, u32 0#32, u32 0#32, u32 0#32, u32 0#32, u32 0#32, u32 0#32, u32 0#32, .str [], .int .i64 0])⟩,
      ⟨none, none, [], .w (.storeN 10 (.t 3) (.t 10))⟩]) (
  .seq (
    .region [
      ⟨some 11, none, [], .p (.mv (.t 0))⟩,
      ⟨some 12, none, [], .p (.nilChk (.t 11))⟩,
      ⟨some 13, none, [], .p (.faddr 9 (.t 12))⟩,
      ⟨some 14, none, [], .r (.load1 (.t 13))⟩,
      ⟨some 15, none, [], .p (.conv .u64 (.t 14))⟩,
      ⟨some 16, none, [], .p (.bin .mul (.t 15) (.c (u64 8#64)))⟩,
      ⟨some 4, none, [], .p (.mv (.t 16))⟩]) (
  .seq (
    .region [
      ⟨some 17, none, [], .p (.mv (.t 0))⟩,
      ⟨some 18, none, [], .p (.nilChk (.t 17))⟩,
      ⟨some 19, none, [], .p (.faddr 8 (.t 18))⟩,
      ⟨some 20, none, [], .r (.load1 (.t 19))⟩,
      ⟨some 21, none, [], .p (.lenV false (.t 20))⟩,
      ⟨some 22, none, [], .p (.bin .sub (.c (.int .i64 119)) (.t 21))⟩,
      ⟨some 23, none, [], .p (.bin .rem (.t 22) (.c (.int .i64 64)))⟩,
      ⟨some 5, none, [], .p (.mv (.t 23))⟩]) (
  .seq (
    .region [
      ⟨some 24, none, [], .p (.mv (.t 5))⟩,
      ⟨some 25, none, [], .call 24004 4 true (.f 44) [.c (.str [0]), .t 24]⟩,
      ⟨some 26, none, [], .p (.bin .add (.c (.str [128])) (.t 25))⟩,
      ⟨some 27, none, [], .p (.mv (.t 4))⟩,
      ⟨some 28, none, [], .p (.bin .shr (.t 27) (.c (u64 32#64)))⟩,
      ⟨some 29, none, [], .p (.conv .u32 (.t 28))⟩,
      ⟨some 30, none, [], .p (.mv (.t 4))⟩,
      ⟨some 31, none, [], .p (.conv .u32 (.t 30))⟩,
      ⟨some 32, none, [], .a 24032 (.buildS 1 2 [u32 0#32] [(0, 1, .t 29), (1, 1, .t 31)])⟩,
      ⟨some 33, none, [], .call 24036 4 true (.f 45) [.t 32]⟩,
      ⟨some 34, none, [], .p (.bin .add (.t 26) (.t 33))⟩,
      ⟨some 35, none, [], .call 24044 4 false (.f 23) [.t 3, .t 34]⟩]) (
  .seq (
    .region [
      ⟨some 36, none, [], .p (.faddr 0 (.t 3))⟩,
      ⟨some 37, none, [], .p (.slcA 8 1 (.t 36) none none)⟩,
      ⟨some 38, none, [], .call 28008 4 true (.f 45) [.t 37]⟩,
      ⟨some 2, none, [], .p (.mv (.t 38))⟩]) (
  .ret))))))),
  39, [Sum.inl 2]⟩

theorem c24 : cFunc Tryd.prog quiet Tryd.f24 [] = some s24 := by kernel_rfl

-- 25 calls []
def s25 : SFunc := ⟨
  .seq (
    .region [
      ⟨some 2, none, [], .p (.mv (.c (.int .i64 0)))⟩]) (
  .seq (
    .seq (
      .region [
        ⟨some 3, none, [], .p (.mv (.t 0))⟩,
        ⟨some 4, none, [], .p (.eqn .ptr false (.t 3) (.c (.ptr none)))⟩]) (
    .cond (.t 4) (
      .seq (
        .region [
          ⟨some 2, none, [], .p (.mv (.c (.int .i64 0)))⟩]) (
      .ret)) (
      .skip))) (
  .seq (
    .region [
      ⟨some 5, none, [], .p (.mv (.t 0))⟩,
      ⟨some 6, none, [], .p (.nilChk (.t 5))⟩,
      ⟨some 7, none, [], .p (.faddr 9 (.t 6))⟩,
      ⟨some 8, none, [], .r (.load1 (.t 7))⟩,
      ⟨some 2, none, [], .p (.mv (.t 8))⟩]) (
  .ret))),
  9, [Sum.inl 2]⟩

theorem c25 : cFunc Tryd.prog quiet Tryd.f25 [] = some s25 := by kernel_rfl

-- 26 calls [15, 22, 23, 24, 25]
def s26 : SFunc := ⟨
  .seq (
    .region [
      ⟨some 0, none, [], .p (.mv (.c (.bool false)))⟩]) (
  .seq (
    .region [
      ⟨some 2, none, [], .call 4000 4 true (.f 22) []⟩,
      ⟨some 1, none, [], .p (.mv (.t 2))⟩]) (
  .seq (
    .region [
      ⟨some 3, none, [], .p (.mv (.t 1))⟩,
      ⟨some 4, none, [], .call 8004 4 false (.f 23) [.t 3, .c (.str [97])]⟩]) (
  .seq (
    .region [
      ⟨some 5, none, [], .p (.mv (.t 1))⟩,
      ⟨some 6, none, [], .call 12004 4 false (.f 23) [.t 5, .c (.str [98, 99])]⟩]) (
  .seq (
    .region [
      ⟨some 7, none, [], .p (.mv (.t 1))⟩,
      ⟨some 8, none, [], .call 16004 4 true (.f 24) [.t 7]⟩,
      ⟨some 9, none, [], .p (.bin .eql (.t 8) (.c (.str [186, 120, 22, 191, 143, 1, 207, 234, 65, 65, 64, 222, 93, 174, 34, 35, 176, 3, 97, 163, 150, 23, 122, 156, 180, 16, 255, 97, 242, 0, 21, 173])))⟩,
      ⟨some 10, none, [], .p (.mv (.t 9))⟩,
      ⟨some 11, some (10, true), [], .p (.mv (.t 1))⟩,
      ⟨some 12, some (10, true), [], .call 16020 4 true (.f 25) [.t 11]⟩,
      ⟨some 13, some (10, true), [], .p (.bin .eql (.t 12) (.c (.int .i64 3)))⟩,
      ⟨some 14, none, [], .p (.pick (.t 10) (.t 13) (.c (.bool false)))⟩,
      ⟨some 15, none, [], .p (.mv (.t 14))⟩,
      ⟨some 16, some (15, true), [], .call 16036 4 true (.f 15) []⟩,
      ⟨some 17, none, [], .p (.pick (.t 15) (.t 16) (.c (.bool false)))⟩,
      ⟨some 0, none, [], .p (.mv (.t 17))⟩]) (
  .ret))))),
  18, [Sum.inl 0]⟩

theorem c26 : cFunc Tryd.prog quiet Tryd.f26 [] = some s26 := by kernel_rfl

-- 40 calls [42]
abbrev k40_0 : List Nat := [0, 3]
abbrev a40_0 : List Nat := [0, 3]
abbrev e40_0 (v0 v3 : AV) : Env := [v0, .dead, .dead, v3, .dead, .dead, .dead, .dead, .dead, .dead, .dead, .dead, .dead, .dead, .dead, .dead, .dead, .dead, .dead, .dead, .dead, .dead, .dead, .dead, .dead, .dead, .dead, .dead, .dead, .dead, .dead]
abbrev x40_0 (v0 v3 : AV) : Env := [v0, .dead, .dead, v3, .dead, .dead, .dead, .dead, .dead, .dead, .dead, .dead, .dead, .dead, .dead, .dead, .dead, .dead, .dead, .dead, .dead, .dead, .dead, .dead, .dead, .dead, .dead, .dead, .dead, .dead, .dead]
def s40_b0 : SCode :=
  .seq (
    .seq (
      .region [
        ⟨some 9, none, [], .p (.mv (.t 3))⟩,
        ⟨some 10, none, [], .p (.lenV true (.t 9))⟩,
        ⟨some 11, none, [], .p (.bin .rem (.t 10) (.c (.int .i64 64)))⟩,
        ⟨some 12, none, [], .p (.bin .neq (.t 11) (.c (.int .i64 56)))⟩]) (
    .cond (.t 12) (
      .skip) (
      .exit 0))) (
  .block 1 (
    .region [
      ⟨some 13, none, [], .p (.mv (.t 3))⟩,
      ⟨some 14, none, [], .a 12004 (.buildS 1 1 [byteAV 0] [(0, 1, .c (byteAV 0))])⟩,
      ⟨some 15, none, [], .w (.append 12008 1 1 (.t 13) (.t 14))⟩,
      ⟨some 3, none, [], .p (.mv (.t 15))⟩]))

def s40 : SFunc := ⟨
  .seq (
    .region [
      ⟨some 2, none, [], .p (.mv (.c (.str [])))⟩]) (
  .seq (
    .region [
      ⟨some 6, none, [], .p (.mv (.t 0))⟩,
      ⟨some 7, none, [], .p (.bin .add (.t 6) (.c (.str [128])))⟩,
      ⟨some 8, none, [], .a 4008 (.toBytes (.t 7))⟩,
      ⟨some 3, none, [], .p (.mv (.t 8))⟩]) (
  .seq (
    .block 0 (
      .loop k40_0 a40_0 s40_b0)) (
  .seq (
    .region [
      ⟨some 16, none, [], .p (.mv (.t 0))⟩,
      ⟨some 17, none, [], .p (.lenV false (.t 16))⟩,
      ⟨some 18, none, [], .p (.bin .mul (.c (.int .i64 8)) (.t 17))⟩,
      ⟨some 4, none, [], .p (.mv (.t 18))⟩]) (
  .seq (
    .region [
      ⟨some 19, none, [], .p (.mv (.t 4))⟩,
      ⟨some 20, none, [], .p (.bin .quo (.t 19) (.c (.int .i64 4294967296)))⟩,
      ⟨some 21, none, [], .p (.conv .u32 (.t 20))⟩,
      ⟨some 22, none, [], .p (.mv (.t 4))⟩,
      ⟨some 23, none, [], .p (.bin .rem (.t 22) (.c (.int .i64 4294967296)))⟩,
      ⟨some 24, none, [], .p (.conv .u32 (.t 23))⟩,
      ⟨some 25, none, [], .a 20024 (.buildS 1 2 [u32 0#32] [(0, 1, .t 21), (1, 1, .t 24)])⟩,
      ⟨some 26, none, [], .call 20028 4 true (.f 42) [.t 25, .c (.bool true)]⟩,
      ⟨some 5, none, [], .p (.mv (.t 26))⟩]) (
  .seq (
    .region [
      ⟨some 27, none, [], .p (.mv (.t 3))⟩,
      ⟨some 28, none, [], .r (.toStr (.t 27))⟩,
      ⟨some 29, none, [], .p (.mv (.t 5))⟩,
      ⟨some 30, none, [], .p (.bin .add (.t 28) (.t 29))⟩,
      ⟨some 2, none, [], .p (.mv (.t 30))⟩]) (
  .ret)))))),
  31, [Sum.inl 2]⟩

theorem c40 : cFunc Tryd.prog quiet Tryd.f40 [[0, 3], [0, 3]] = some s40 := by kernel_rfl

-- 41 calls [55, 56, 57, 58, 59]
abbrev k41_1 : List Nat := [2, 4, 5, 10, 11, 12, 13, 14, 15, 16, 17, 18]
abbrev a41_1 : List Nat := [2, 4, 10, 11, 12, 13, 14, 15, 16, 17]
abbrev e41_1 (v2 v4 v5 v10 v11 v12 v13 v14 v15 v16 v17 v18 : AV) : Env := [.dead, .dead, v2, .dead, v4, v5, .dead, .dead, .dead, .dead, v10, v11, v12, v13, v14, v15, v16, v17, v18, .dead, .dead, .dead, .dead, .dead, .dead, .dead, .dead, .dead, .dead, .dead, .dead, .dead, .dead, .dead, .dead, .dead, .dead, .dead, .dead, .dead, .dead, .dead, .dead, .dead, .dead, .dead, .dead, .dead, .dead, .dead, .dead, .dead, .dead, .dead, .dead, .dead, .dead, .dead, .dead, .dead, .dead, .dead, .dead, .dead, .dead, .dead, .dead, .dead, .dead, .dead, .dead, .dead, .dead, .dead, .dead, .dead, .dead, .dead, .dead, .dead, .dead, .dead, .dead, .dead, .dead, .dead, .dead, .dead, .dead, .dead, .dead, .dead, .dead, .dead, .dead, .dead, .dead, .dead, .dead, .dead, .dead, .dead, .dead, .dead, .dead, .dead, .dead, .dead, .dead, .dead, .dead, .dead, .dead, .dead, .dead, .dead, .dead, .dead, .dead, .dead, .dead, .dead, .dead, .dead, .dead, .dead, .dead, .dead, .dead, .dead, .dead, .dead, .dead, .dead, .dead, .dead, .dead, .dead, .dead, .dead, .dead, .dead, .dead, .dead, .dead, .dead, .dead, .dead, .dead, .dead, .dead, .dead, .dead, .dead, .dead, .dead, .dead, .dead]
abbrev x41_1 (v2 v4 v10 v11 v12 v13 v14 v15 v16 v17 : AV) : Env := [.dead, .dead, v2, .dead, v4, .dead, .dead, .dead, .dead, .dead, v10, v11, v12, v13, v14, v15, v16, v17, .dead, .dead, .dead, .dead, .dead, .dead, .dead, .dead, .dead, .dead, .dead, .dead, .dead, .dead, .dead, .dead, .dead, .dead, .dead, .dead, .dead, .dead, .dead, .dead, .dead, .dead, .dead, .dead, .dead, .dead, .dead, .dead, .dead, .dead, .dead, .dead, .dead, .dead, .dead, .dead, .dead, .dead, .dead, .dead, .dead, .dead, .dead, .dead, .dead, .dead, .dead, .dead, .dead, .dead, .dead, .dead, .dead, .dead, .dead, .dead, .dead, .dead, .dead, .dead, .dead, .dead, .dead, .dead, .dead, .dead, .dead, .dead, .dead, .dead, .dead, .dead, .dead, .dead, .dead, .dead, .dead, .dead, .dead, .dead, .dead, .dead, .dead, .dead, .dead, .dead, .dead, .dead, .dead, .dead, .dead, .dead, .dead, .dead, .dead, .dead, .dead, .dead, .dead, .dead, .dead, .dead, .dead, .dead, .dead, .dead, .dead, .dead, .dead, .dead, .dead, .dead, .dead, .dead, .dead, .dead, .dead, .dead, .dead, .dead, .dead, .dead, .dead, .dead, .dead, .dead, .dead, .dead, .dead, .dead, .dead, .dead, .dead, .dead, .dead, .dead]
def s41_b1 : SCode :=
  .seq (
    .seq (
      .region [
        ⟨some 80, none, [], .p (.mv (.t 18))⟩,
        ⟨some 81, none, [], .p (.bin .lss (.t 80) (.c (.int .i64 64)))⟩]) (
    .cond (.t 81) (
      .skip) (
      .exit 2))) (
  .seq (
    .block 3 (
      .seq (
        .region [
          ⟨some 84, none, [], .p (.mv (.t 14))⟩,
          ⟨some 85, none, [], .call 76004 4 true (.f 57) [.t 84, .c (.int .i64 6), .c (.int .i64 11), .c (.int .i64 25)]⟩,
          ⟨some 19, none, [], .p (.mv (.t 85))⟩]) (
      .seq (
        .region [
          ⟨some 86, none, [], .p (.mv (.t 10))⟩,
          ⟨some 87, none, [], .call 80004 4 true (.f 57) [.t 86, .c (.int .i64 2), .c (.int .i64 13), .c (.int .i64 22)]⟩,
          ⟨some 20, none, [], .p (.mv (.t 87))⟩]) (
      .seq (
        .region [
          ⟨some 88, none, [], .p (.mv (.t 14))⟩,
          ⟨some 89, none, [], .p (.mv (.t 15))⟩,
          ⟨some 90, none, [], .p (.mv (.t 16))⟩,
          ⟨some 91, none, [], .call 84012 4 true (.f 58) [.t 88, .t 89, .t 90]⟩,
          ⟨some 21, none, [], .p (.mv (.t 91))⟩]) (
      .seq (
        .region [
          ⟨some 92, none, [], .p (.mv (.t 10))⟩,
          ⟨some 93, none, [], .p (.mv (.t 11))⟩,
          ⟨some 94, none, [], .p (.mv (.t 12))⟩,
          ⟨some 95, none, [], .call 88012 4 true (.f 59) [.t 92, .t 93, .t 94]⟩,
          ⟨some 22, none, [], .p (.mv (.t 95))⟩]) (
      .seq (
        .region [
          ⟨some 96, none, [], .p (.mv (.t 17))⟩,
          ⟨some 97, none, [], .p (.mv (.t 19))⟩,
          ⟨some 98, none, [], .p (.bin .add (.t 96) (.t 97))⟩,
          ⟨some 99, none, [], .p (.mv (.t 21))⟩,
          ⟨some 100, none, [], .p (.bin .add (.t 98) (.t 99))⟩,
          ⟨some 101, none, [], .p (.mv (.t 18))⟩,
          ⟨some 102, none, [], .p (.iaddrA 64 1 (.g 2 64) (.t 101))⟩,
          ⟨some 103, none, [], .r (.load1 (.t 102))⟩,
          ⟨some 104, none, [], .p (.bin .add (.t 100) (.t 103))⟩,
          ⟨some 105, none, [], .p (.mv (.t 5))⟩,
          ⟨some 106, none, [], .p (.mv (.t 18))⟩,
          ⟨some 107, none, [], .p (.iaddrS 1 (.t 105) (.t 106))⟩,
          ⟨some 108, none, [], .r (.load1 (.t 107))⟩,
          ⟨some 109, none, [], .p (.bin .add (.t 104) (.t 108))⟩,
          ⟨some 23, none, [], .p (.mv (.t 109))⟩]) (
      .seq (
        .region [
          ⟨some 110, none, [], .p (.mv (.t 20))⟩,
          ⟨some 111, none, [], .p (.mv (.t 22))⟩,
          ⟨some 112, none, [], .p (.bin .add (.t 110) (.t 111))⟩,
          ⟨some 24, none, [], .p (.mv (.t 112))⟩]) (
      .seq (
        .region [
          ⟨some 113, none, [], .p (.mv (.t 16))⟩,
          ⟨some 17, none, [], .p (.mv (.t 113))⟩]) (
      .seq (
        .region [
          ⟨some 114, none, [], .p (.mv (.t 15))⟩,
          ⟨some 16, none, [], .p (.mv (.t 114))⟩]) (
      .seq (
        .region [
          ⟨some 115, none, [], .p (.mv (.t 14))⟩,
          ⟨some 15, none, [], .p (.mv (.t 115))⟩]) (
      .seq (
        .region [
          ⟨some 116, none, [], .p (.mv (.t 13))⟩,
          ⟨some 117, none, [], .p (.mv (.t 23))⟩,
          ⟨some 118, none, [], .p (.bin .add (.t 116) (.t 117))⟩,
          ⟨some 14, none, [], .p (.mv (.t 118))⟩]) (
      .seq (
        .region [
          ⟨some 119, none, [], .p (.mv (.t 12))⟩,
          ⟨some 13, none, [], .p (.mv (.t 119))⟩]) (
      .seq (
        .region [
          ⟨some 120, none, [], .p (.mv (.t 11))⟩,
          ⟨some 12, none, [], .p (.mv (.t 120))⟩]) (
      .seq (
        .region [
          ⟨some 121, none, [], .p (.mv (.t 10))⟩,
          ⟨some 11, none, [], .p (.mv (.t 121))⟩]) (
      .region [
        ⟨some 122, none, [], .p (.mv (.t 23))⟩,
        ⟨some 123, none, [], .p (.mv (.t 24))⟩,
        ⟨some 124, none, [], .p (.bin .add (.t 122) (.t 123))⟩,
        ⟨some 10, none, [], .p (.mv (.t 124))⟩]))))))))))))))) (
  .region [
    ⟨some 82, none, [], .p (.mv (.t 18))⟩,
    ⟨some 83, none, [], .p (.bin .add (.t 82) (.c (.int .i64 1)))⟩,
    ⟨some 18, none, [], .p (.mv (.t 83))⟩]))

abbrev k41_0 : List Nat := [2, 4, 5, 7]
abbrev a41_0 : List Nat := [2, 4, 5]
abbrev e41_0 (v2 v4 v5 v7 : AV) : Env := [.dead, .dead, v2, .dead, v4, v5, .dead, v7, .dead, .dead, .dead, .dead, .dead, .dead, .dead, .dead, .dead, .dead, .dead, .dead, .dead, .dead, .dead, .dead, .dead, .dead, .dead, .dead, .dead, .dead, .dead, .dead, .dead, .dead, .dead, .dead, .dead, .dead, .dead, .dead, .dead, .dead, .dead, .dead, .dead, .dead, .dead, .dead, .dead, .dead, .dead, .dead, .dead, .dead, .dead, .dead, .dead, .dead, .dead, .dead, .dead, .dead, .dead, .dead, .dead, .dead, .dead, .dead, .dead, .dead, .dead, .dead, .dead, .dead, .dead, .dead, .dead, .dead, .dead, .dead, .dead, .dead, .dead, .dead, .dead, .dead, .dead, .dead, .dead, .dead, .dead, .dead, .dead, .dead, .dead, .dead, .dead, .dead, .dead, .dead, .dead, .dead, .dead, .dead, .dead, .dead, .dead, .dead, .dead, .dead, .dead, .dead, .dead, .dead, .dead, .dead, .dead, .dead, .dead, .dead, .dead, .dead, .dead, .dead, .dead, .dead, .dead, .dead, .dead, .dead, .dead, .dead, .dead, .dead, .dead, .dead, .dead, .dead, .dead, .dead, .dead, .dead, .dead, .dead, .dead, .dead, .dead, .dead, .dead, .dead, .dead, .dead, .dead, .dead, .dead, .dead, .dead, .dead]
abbrev x41_0 (v2 v4 v5 : AV) : Env := [.dead, .dead, v2, .dead, v4, v5, .dead, .dead, .dead, .dead, .dead, .dead, .dead, .dead, .dead, .dead, .dead, .dead, .dead, .dead, .dead, .dead, .dead, .dead, .dead, .dead, .dead, .dead, .dead, .dead, .dead, .dead, .dead, .dead, .dead, .dead, .dead, .dead, .dead, .dead, .dead, .dead, .dead, .dead, .dead, .dead, .dead, .dead, .dead, .dead, .dead, .dead, .dead, .dead, .dead, .dead, .dead, .dead, .dead, .dead, .dead, .dead, .dead, .dead, .dead, .dead, .dead, .dead, .dead, .dead, .dead, .dead, .dead, .dead, .dead, .dead, .dead, .dead, .dead, .dead, .dead, .dead, .dead, .dead, .dead, .dead, .dead, .dead, .dead, .dead, .dead, .dead, .dead, .dead, .dead, .dead, .dead, .dead, .dead, .dead, .dead, .dead, .dead, .dead, .dead, .dead, .dead, .dead, .dead, .dead, .dead, .dead, .dead, .dead, .dead, .dead, .dead, .dead, .dead, .dead, .dead, .dead, .dead, .dead, .dead, .dead, .dead, .dead, .dead, .dead, .dead, .dead, .dead, .dead, .dead, .dead, .dead, .dead, .dead, .dead, .dead, .dead, .dead, .dead, .dead, .dead, .dead, .dead, .dead, .dead, .dead, .dead, .dead, .dead, .dead, .dead, .dead, .dead]
def s41_b0 : SCode :=
  .seq (
    .seq (
      .region [
        ⟨some 30, none, [], .p (.mv (.t 7))⟩,
        ⟨some 31, none, [], .p (.bin .lss (.t 30) (.c (.int .i64 64)))⟩]) (
    .cond (.t 31) (
      .skip) (
      .exit 0))) (
  .seq (
    .block 1 (
      .seq (
        .region [
          ⟨some 34, none, [], .p (.mv (.t 5))⟩,
          ⟨some 35, none, [], .p (.mv (.t 7))⟩,
          ⟨some 36, none, [], .p (.bin .sub (.t 35) (.c (.int .i64 15)))⟩,
          ⟨some 37, none, [], .p (.iaddrS 1 (.t 34) (.t 36))⟩,
          ⟨some 38, none, [], .r (.load1 (.t 37))⟩,
          ⟨some 39, none, [], .call 20020 4 true (.f 56) [.t 38, .c (.int .i64 7), .c (.int .i64 18), .c (u32 8#32)]⟩,
          ⟨some 8, none, [], .p (.mv (.t 39))⟩]) (
      .seq (
        .region [
          ⟨some 40, none, [], .p (.mv (.t 5))⟩,
          ⟨some 41, none, [], .p (.mv (.t 7))⟩,
          ⟨some 42, none, [], .p (.bin .sub (.t 41) (.c (.int .i64 2)))⟩,
          ⟨some 43, none, [], .p (.iaddrS 1 (.t 40) (.t 42))⟩,
          ⟨some 44, none, [], .r (.load1 (.t 43))⟩,
          ⟨some 45, none, [], .call 24020 4 true (.f 56) [.t 44, .c (.int .i64 17), .c (.int .i64 19), .c (u32 1024#32)]⟩,
          ⟨some 9, none, [], .p (.mv (.t 45))⟩]) (
      .region [
        ⟨some 46, none, [], .p (.mv (.t 5))⟩,
        ⟨some 47, none, [], .p (.mv (.t 9))⟩,
        ⟨some 48, none, [], .p (.mv (.t 5))⟩,
        ⟨some 49, none, [], .p (.mv (.t 7))⟩,
        ⟨some 50, none, [], .p (.bin .sub (.t 49) (.c (.int .i64 7)))⟩,
        ⟨some 51, none, [], .p (.iaddrS 1 (.t 48) (.t 50))⟩,
        ⟨some 52, none, [], .r (.load1 (.t 51))⟩,
        ⟨some 53, none, [], .p (.bin .add (.t 47) (.t 52))⟩,
        ⟨some 54, none, [], .p (.mv (.t 8))⟩,
        ⟨some 55, none, [], .p (.bin .add (.t 53) (.t 54))⟩,
        ⟨some 56, none, [], .p (.mv (.t 5))⟩,
        ⟨some 57, none, [], .p (.mv (.t 7))⟩,
        ⟨some 58, none, [], .p (.bin .sub (.t 57) (.c (.int .i64 16)))⟩,
        ⟨some 59, none, [], .p (.iaddrS 1 (.t 56) (.t 58))⟩,
        ⟨some 60, none, [], .r (.load1 (.t 59))⟩,
        ⟨some 61, none, [], .p (.bin .add (.t 55) (.t 60))⟩,
        ⟨some 62, none, [], .a 28064 (.buildS 1 1 [u32 0#32] [(0, 1, .t 61)])⟩,
        ⟨some 63, none, [], .w (.append 28068 1 4 (.t 46) (.t 62))⟩,
        ⟨some 5, none, [], .p (.mv (.t 63))⟩])))) (
  .region [
    ⟨some 32, none, [], .p (.mv (.t 7))⟩,
    ⟨some 33, none, [], .p (.bin .add (.t 32) (.c (.int .i64 1)))⟩,
    ⟨some 7, none, [], .p (.mv (.t 33))⟩]))

def s41 : SFunc := ⟨
  .seq (
    .region [
      ⟨some 2, none, [], .a 0 (.box (.t 0))⟩,
      ⟨some 4, none, [], .a 4 (.alloc [u32 0#32, u32 0#32, u32 0#32, u32 0#32, u32 0#32, u32 0#32, u32 0#32, u32 0#32])⟩]) (
  .seq (
    .region [
      ⟨some 26, none, [], .p (.mv (.t 1))⟩,
      ⟨some 27, none, [], .call 4004 4 true (.f 55) [.t 26, .c (.bool true)]⟩,
      ⟨some 25, none, [], .p (.mv (.t 27))⟩,
      ⟨some 28, none, [], .p (.extract (.t 25) 0)⟩,
      ⟨some 29, none, [], .p (.extract (.t 25) 1)⟩,
      ⟨some 5, none, [], .p (.mv (.t 28))⟩,
      ⟨some 6, none, [], .p (.mv (.t 29))⟩]) (
  .seq (
    .seq (
      .region [
        ⟨some 7, none, [], .p (.mv (.c (.int .i64 16)))⟩]) (
    .block 0 (
      .loop k41_0 a41_0 s41_b0))) (
  .seq (
    .region [
      ⟨some 64, none, [], .p (.iaddrA 8 1 (.t 2) (.c (.int .i64 0)))⟩,
      ⟨some 65, none, [], .r (.load1 (.t 64))⟩,
      ⟨some 10, none, [], .p (.mv (.t 65))⟩]) (
  .seq (
    .region [
      ⟨some 66, none, [], .p (.iaddrA 8 1 (.t 2) (.c (.int .i64 1)))⟩,
      ⟨some 67, none, [], .r (.load1 (.t 66))⟩,
      ⟨some 11, none, [], .p (.mv (.t 67))⟩]) (
  .seq (
    .region [
      ⟨some 68, none, [], .p (.iaddrA 8 1 (.t 2) (.c (.int .i64 2)))⟩,
      ⟨some 69, none, [], .r (.load1 (.t 68))⟩,
      ⟨some 12, none, [], .p (.mv (.t 69))⟩]) (
  .seq (
    .region [
      ⟨some 70, none, [], .p (.iaddrA 8 1 (.t 2) (.c (.int .i64 3)))⟩,
      ⟨some 71, none, [], .r (.load1 (.t 70))⟩,
      ⟨some 13, none, [], .p (.mv (.t 71))⟩]) (
  .seq (
    .region [
      ⟨some 72, none, [], .p (.iaddrA 8 1 (.t 2) (.c (.int .i64 4)))⟩,
      ⟨some 73, none, [], .r (.load1 (.t 72))⟩,
      ⟨some 14, none, [], .p (.mv (.t 73))⟩]) (
  .seq (
    .region [
      ⟨some 74, none, [], .p (.iaddrA 8 1 (.t 2) (.c (.int .i64 5)))⟩,
      ⟨some 75, none, [], .r (.load1 (.t 74))⟩,
      ⟨some 15, none, [], .p (.mv (.t 75))⟩]) (
  .seq (
    .region [
      ⟨some 76, none, [], .p (.iaddrA 8 1 (.t 2) (.c (.int .i64 6)))⟩,
      ⟨some 77, none, [], .r (.load1 (.t 76))⟩,
      ⟨some 16, none, [], .p (.mv (.t 77))⟩]) (
  .seq (
    .region [
      ⟨some 78, none, [], .p (.iaddrA 8 1 (.t 2) (.c (.int .i64 7)))⟩,
      ⟨some 79, none, [], .r (.load1 (.t 78))⟩,
      ⟨some 17, none, [], .p (.mv (.t 79))⟩]) (
  .seq (
    .seq (
      .region [
        ⟨some 18, none, [], .p (.mv (.c (.int .i64 0)))⟩]) (
    .block 2 (
      .loop k41_1 a41_1 s41_b1))) (
  .seq (
    .region [
      ⟨some 125, none, [], .p (.iaddrA 8 1 (.t 2) (.c (.int .i64 0)))⟩,
      ⟨some 126, none, [], .r (.load1 (.t 125))⟩,
      ⟨some 127, none, [], .p (.mv (.t 10))⟩,
      ⟨some 128, none, [], .p (.bin .add (.t 126) (.t 127))⟩,
      ⟨some 129, none, [], .p (.iaddrA 8 1 (.t 2) (.c (.int .i64 1)))⟩,
      ⟨some 130, none, [], .r (.load1 (.t 129))⟩,
      ⟨some 131, none, [], .p (.mv (.t 11))⟩,
      ⟨some 132, none, [], .p (.bin .add (.t 130) (.t 131))⟩,
      ⟨some 133, none, [], .p (.iaddrA 8 1 (.t 2) (.c (.int .i64 2)))⟩,
      ⟨some 134, none, [], .r (.load1 (.t 133))⟩,
      ⟨some 135, none, [], .p (.mv (.t 12))⟩,
      ⟨some 136, none, [], .p (.bin .add (.t 134) (.t 135))⟩,
      ⟨some 137, none, [], .p (.iaddrA 8 1 (.t 2) (.c (.int .i64 3)))⟩,
      ⟨some 138, none, [], .r (.load1 (.t 137))⟩,
      ⟨some 139, none, [], .p (.mv (.t 13))⟩,
      ⟨some 140, none, [], .p (.bin .add (.t 138) (.t 139))⟩,
      ⟨some 141, none, [], .p (.iaddrA 8 1 (.t 2) (.c (.int .i64 4)))⟩,
      ⟨some 142, none, [], .r (.load1 (.t 141))⟩,
      ⟨some 143, none, [], .p (.mv (.t 14))⟩,
      ⟨some 144, none, [], .p (.bin .add (.t 142) (.t 143))⟩,
      ⟨some 145, none, [], .p (.iaddrA 8 1 (.t 2) (.c (.int .i64 5)))⟩,
      ⟨some 146, none, [], .r (.load1 (.t 145))⟩,
      ⟨some 147, none, [], .p (.mv (.t 15))⟩,
      ⟨some 148, none, [], .p (.bin .add (.t 146) (.t 147))⟩,
      ⟨some 149, none, [], .p (.iaddrA 8 1 (.t 2) (.c (.int .i64 6)))⟩,
      ⟨some 150, none, [], .r (.load1 (.t 149))⟩,
      ⟨some 151, none, [], .p (.mv (.t 16))⟩,
      ⟨some 152, none, [], .p (.bin .add (.t 150) (.t 151))⟩,
      ⟨some 153, none, [], .p (.iaddrA 8 1 (.t 2) (.c (.int .i64 7)))⟩,
      ⟨some 154, none, [], .r (.load1 (.t 153))⟩,
      ⟨some 155, none, [], .p (.mv (.t 17))⟩,
      ⟨some 156, none, [], .p (.bin .add (.t 154) (.t 155))⟩,
      ⟨some 157, none, [], .p (.build [u32 0#32, u32 0#32, u32 0#32, u32 0#32, u32 0#32, u32 0#32, u32 0#32, u32 0#32] [(0, 1, .t 128), (1, 1, .t 132), (2, 1, .t 136), (3, 1, .t 140), (4, 1, .t 144), (5, 1, .t 148), (6, 1, .t 152), (7, 1, .t 156)])⟩,
      ⟨none, none, [], .w (.storeN 8 (.t 4) (.t 157))⟩]) (
  .ret))))))))))))),
  158, [Sum.inr (4, 8, true)]⟩

theorem c41 : cFunc Tryd.prog quiet Tryd.f41 [[2, 4, 5, 7], [2, 4, 5], [2, 4, 5, 10, 11, 12, 13, 14, 15, 16, 17, 18], [2, 4, 10, 11, 12, 13, 14, 15, 16, 17]] = some s41 := by kernel_rfl

-- 42 calls []
abbrev k42_2 : List Nat := [0, 1, 5, 6, 7, 11]
abbrev a42_2 : List Nat := [0, 1, 5, 6]
abbrev e42_2 (v0 v1 v5 v6 v7 v11 : AV) : Env := [v0, v1, .dead, .dead, .dead, v5, v6, v7, .dead, .dead, .dead, v11, .dead, .dead, .dead, .dead, .dead, .dead, .dead, .dead, .dead, .dead, .dead, .dead, .dead, .dead, .dead, .dead, .dead, .dead, .dead, .dead, .dead, .dead, .dead, .dead, .dead, .dead, .dead, .dead, .dead, .dead, .dead, .dead, .dead, .dead, .dead, .dead, .dead]
abbrev x42_2 (v0 v1 v5 v6 : AV) : Env := [v0, v1, .dead, .dead, .dead, v5, v6, .dead, .dead, .dead, .dead, .dead, .dead, .dead, .dead, .dead, .dead, .dead, .dead, .dead, .dead, .dead, .dead, .dead, .dead, .dead, .dead, .dead, .dead, .dead, .dead, .dead, .dead, .dead, .dead, .dead, .dead, .dead, .dead, .dead, .dead, .dead, .dead, .dead, .dead, .dead, .dead, .dead, .dead]
def s42_b2 : SCode :=
  .seq (
    .seq (
      .region [
        ⟨some 37, none, [], .p (.mv (.t 11))⟩,
        ⟨some 38, none, [], .p (.bin .lss (.t 37) (.c (.int .i64 4)))⟩]) (
    .cond (.t 38) (
      .skip) (
      .exit 4))) (
  .seq (
    .block 5 (
      .region [
        ⟨some 41, none, [], .p (.mv (.t 5))⟩,
        ⟨some 42, none, [], .p (.mv (.t 11))⟩,
        ⟨some 43, none, [], .p (.iaddrA 4 1 (.t 7) (.t 42))⟩,
        ⟨some 44, none, [], .r (.load1 (.t 43))⟩,
        ⟨some 45, none, [], .a 72016 (.buildS 1 1 [byteAV 0] [(0, 1, .t 44)])⟩,
        ⟨some 46, none, [], .w (.append 72020 1 1 (.t 41) (.t 45))⟩,
        ⟨some 5, none, [], .p (.mv (.t 46))⟩])) (
  .region [
    ⟨some 39, none, [], .p (.mv (.t 11))⟩,
    ⟨some 40, none, [], .p (.bin .add (.t 39) (.c (.int .i64 1)))⟩,
    ⟨some 11, none, [], .p (.mv (.t 40))⟩]))

abbrev k42_1 : List Nat := [0, 1, 5, 6, 7, 8, 9]
abbrev a42_1 : List Nat := [0, 1, 5, 6, 7]
abbrev e42_1 (v0 v1 v5 v6 v7 v8 v9 : AV) : Env := [v0, v1, .dead, .dead, .dead, v5, v6, v7, v8, v9, .dead, .dead, .dead, .dead, .dead, .dead, .dead, .dead, .dead, .dead, .dead, .dead, .dead, .dead, .dead, .dead, .dead, .dead, .dead, .dead, .dead, .dead, .dead, .dead, .dead, .dead, .dead, .dead, .dead, .dead, .dead, .dead, .dead, .dead, .dead, .dead, .dead, .dead, .dead]
abbrev x42_1 (v0 v1 v5 v6 v7 : AV) : Env := [v0, v1, .dead, .dead, .dead, v5, v6, v7, .dead, .dead, .dead, .dead, .dead, .dead, .dead, .dead, .dead, .dead, .dead, .dead, .dead, .dead, .dead, .dead, .dead, .dead, .dead, .dead, .dead, .dead, .dead, .dead, .dead, .dead, .dead, .dead, .dead, .dead, .dead, .dead, .dead, .dead, .dead, .dead, .dead, .dead, .dead, .dead, .dead]
def s42_b1 : SCode :=
  .seq (
    .seq (
      .region [
        ⟨some 22, none, [], .p (.mv (.t 9))⟩,
        ⟨some 23, none, [], .p (.bin .lss (.t 22) (.c (.int .i64 4)))⟩]) (
    .cond (.t 23) (
      .skip) (
      .exit 2))) (
  .seq (
    .block 3 (
      .seq (
        .region [
          ⟨some 26, none, [], .p (.mv (.t 9))⟩,
          ⟨some 10, none, [], .p (.mv (.t 26))⟩]) (
      .seq (
        .seq (
          .region [
            ⟨some 27, none, [], .p (.mv (.t 1))⟩]) (
        .cond (.t 27) (
          .region [
            ⟨some 28, none, [], .p (.mv (.t 9))⟩,
            ⟨some 29, none, [], .p (.bin .sub (.c (.int .i64 3)) (.t 28))⟩,
            ⟨some 10, none, [], .p (.mv (.t 29))⟩]) (
          .skip))) (
      .seq (
        .region [
          ⟨some 30, none, [], .p (.mv (.t 10))⟩,
          ⟨some 31, none, [], .p (.mv (.t 8))⟩,
          ⟨some 32, none, [], .p (.bin .rem (.t 31) (.c (u32 256#32)))⟩,
          ⟨some 33, none, [], .p (.conv .u8 (.t 32))⟩,
          ⟨some 34, none, [], .p (.iaddrA 4 1 (.t 7) (.t 30))⟩,
          ⟨none, none, [], .w (.store1 (.t 34) (.t 33))⟩]) (
      .region [
        ⟨some 35, none, [], .p (.mv (.t 8))⟩,
        ⟨some 36, none, [], .p (.bin .quo (.t 35) (.c (u32 256#32)))⟩,
        ⟨some 8, none, [], .p (.mv (.t 36))⟩]))))) (
  .region [
    ⟨some 24, none, [], .p (.mv (.t 9))⟩,
    ⟨some 25, none, [], .p (.bin .add (.t 24) (.c (.int .i64 1)))⟩,
    ⟨some 9, none, [], .p (.mv (.t 25))⟩]))

abbrev k42_0 : List Nat := [0, 1, 5, 6]
abbrev a42_0 : List Nat := [5]
abbrev e42_0 (v0 v1 v5 v6 : AV) : Env := [v0, v1, .dead, .dead, .dead, v5, v6, .dead, .dead, .dead, .dead, .dead, .dead, .dead, .dead, .dead, .dead, .dead, .dead, .dead, .dead, .dead, .dead, .dead, .dead, .dead, .dead, .dead, .dead, .dead, .dead, .dead, .dead, .dead, .dead, .dead, .dead, .dead, .dead, .dead, .dead, .dead, .dead, .dead, .dead, .dead, .dead, .dead, .dead]
abbrev x42_0 (v5 : AV) : Env := [.dead, .dead, .dead, .dead, .dead, v5, .dead, .dead, .dead, .dead, .dead, .dead, .dead, .dead, .dead, .dead, .dead, .dead, .dead, .dead, .dead, .dead, .dead, .dead, .dead, .dead, .dead, .dead, .dead, .dead, .dead, .dead, .dead, .dead, .dead, .dead, .dead, .dead, .dead, .dead, .dead, .dead, .dead, .dead, .dead, .dead, .dead, .dead, .dead]
def s42_b0 : SCode :=
  .seq (
    .seq (
      .region [
        ⟨some 12, none, [], .p (.mv (.t 6))⟩,
        ⟨some 13, none, [], .p (.mv (.t 0))⟩,
        ⟨some 14, none, [], .p (.lenV true (.t 13))⟩,
        ⟨some 15, none, [], .p (.bin .lss (.t 12) (.t 14))⟩]) (
    .cond (.t 15) (
      .skip) (
      .exit 0))) (
  .seq (
    .block 1 (
      .seq (
        .region [
          ⟨some 7, none, [], .a 20000 (.alloc [byteAV 0, byteAV 0, byteAV 0, byteAV 0])⟩]) (
      .seq (
        .region [
          ⟨some 18, none, [], .p (.mv (.t 0))⟩,
          ⟨some 19, none, [], .p (.mv (.t 6))⟩,
          ⟨some 20, none, [], .p (.iaddrS 1 (.t 18) (.t 19))⟩,
          ⟨some 21, none, [], .r (.load1 (.t 20))⟩,
          ⟨some 8, none, [], .p (.mv (.t 21))⟩]) (
      .seq (
        .seq (
          .region [
            ⟨some 9, none, [], .p (.mv (.c (.int .i64 0)))⟩]) (
        .block 2 (
          .loop k42_1 a42_1 s42_b1))) (
      .seq (
        .region [
          ⟨some 11, none, [], .p (.mv (.c (.int .i64 0)))⟩]) (
      .block 4 (
        .loop k42_2 a42_2 s42_b2))))))) (
  .region [
    ⟨some 16, none, [], .p (.mv (.t 6))⟩,
    ⟨some 17, none, [], .p (.bin .add (.t 16) (.c (.int .i64 1)))⟩,
    ⟨some 6, none, [], .p (.mv (.t 17))⟩]))

def s42 : SFunc := ⟨
  .seq (
    .region [
      ⟨some 4, none, [], .p (.mv (.c (.str [])))⟩]) (
  .seq (
    .region [
      ⟨some 5, none, [], .p (.mv (.c (.slice none 0 0)))⟩]) (
  .seq (
    .seq (
      .region [
        ⟨some 6, none, [], .p (.mv (.c (.int .i64 0)))⟩]) (
    .block 0 (
      .loop k42_0 a42_0 s42_b0))) (
  .seq (
    .region [
      ⟨some 47, none, [], .p (.mv (.t 5))⟩,
      ⟨some 48, none, [], .r (.toStr (.t 47))⟩,
      ⟨some 4, none, [], .p (.mv (.t 48))⟩]) (
  .ret)))),
  49, [Sum.inl 4]⟩

theorem c42 : cFunc Tryd.prog quiet Tryd.f42 [[0, 1, 5, 6], [5], [0, 1, 5, 6, 7, 8, 9], [0, 1, 5, 6, 7], [0, 1, 5, 6, 7, 11], [0, 1, 5, 6]] = some s42 := by kernel_rfl

-- 43 calls [60, 61]
abbrev k43_1 : List Nat := [0, 98, 99]
abbrev a43_1 : List Nat := []
abbrev e43_1 (v0 v98 v99 : AV) : Env := [v0, .dead, .dead, .dead, .dead, .dead, .dead, .dead, .dead, .dead, .dead, .dead, .dead, .dead, .dead, .dead, .dead, .dead, .dead, .dead, .dead, .dead, .dead, .dead, .dead, .dead, .dead, .dead, .dead, .dead, .dead, .dead, .dead, .dead, .dead, .dead, .dead, .dead, .dead, .dead, .dead, .dead, .dead, .dead, .dead, .dead, .dead, .dead, .dead, .dead, .dead, .dead, .dead, .dead, .dead, .dead, .dead, .dead, .dead, .dead, .dead, .dead, .dead, .dead, .dead, .dead, .dead, .dead, .dead, .dead, .dead, .dead, .dead, .dead, .dead, .dead, .dead, .dead, .dead, .dead, .dead, .dead, .dead, .dead, .dead, .dead, .dead, .dead, .dead, .dead, .dead, .dead, .dead, .dead, .dead, .dead, .dead, .dead, v98, v99, .dead, .dead, .dead, .dead, .dead, .dead, .dead, .dead, .dead, .dead, .dead, .dead, .dead, .dead, .dead]
abbrev x43_1 : Env := [.dead, .dead, .dead, .dead, .dead, .dead, .dead, .dead, .dead, .dead, .dead, .dead, .dead, .dead, .dead, .dead, .dead, .dead, .dead, .dead, .dead, .dead, .dead, .dead, .dead, .dead, .dead, .dead, .dead, .dead, .dead, .dead, .dead, .dead, .dead, .dead, .dead, .dead, .dead, .dead, .dead, .dead, .dead, .dead, .dead, .dead, .dead, .dead, .dead, .dead, .dead, .dead, .dead, .dead, .dead, .dead, .dead, .dead, .dead, .dead, .dead, .dead, .dead, .dead, .dead, .dead, .dead, .dead, .dead, .dead, .dead, .dead, .dead, .dead, .dead, .dead, .dead, .dead, .dead, .dead, .dead, .dead, .dead, .dead, .dead, .dead, .dead, .dead, .dead, .dead, .dead, .dead, .dead, .dead, .dead, .dead, .dead, .dead, .dead, .dead, .dead, .dead, .dead, .dead, .dead, .dead, .dead, .dead, .dead, .dead, .dead, .dead, .dead, .dead, .dead]
def s43_b1 : SCode :=
  .seq (
    .region [
      ⟨some 100, none, [], .p (.bin .lss (.t 99) (.c (.int .i64 8)))⟩]) (
  .seq (
    .cond (.t 100) (
      .skip) (
      .exit 2)) (
  .seq (
    .block 3 (
      .seq (
        .region [
          ⟨some 101, none, [], .p (.mv (.t 99))⟩,
          ⟨some 102, none, [], .p (.idxA 8 (.t 98) (.t 99))⟩,
          ⟨some 14, none, [], .p (.mv (.t 101))⟩,
          ⟨some 15, none, [], .p (.mv (.t 102))⟩]) (
      .region [
        ⟨some 103, none, [], .p (.mv (.t 0))⟩,
        ⟨some 104, none, [], .p (.mv (.t 14))⟩,
        ⟨some 105, none, [], .p (.nilChk (.t 103))⟩,
        ⟨some 106, none, [], .p (.faddr 0 (.t 105))⟩,
        ⟨some 107, none, [], .p (.iaddrA 8 1 (.t 106) (.t 104))⟩,
        ⟨some 108, none, [], .r (.load1 (.t 107))⟩,
        ⟨some 109, none, [], .p (.mv (.t 15))⟩,
        ⟨some 110, none, [], .p (.bin .add (.t 108) (.t 109))⟩,
        ⟨some 111, none, [], .p (.nilChk (.t 103))⟩,
        ⟨some 112, none, [], .p (.faddr 0 (.t 111))⟩,
        ⟨some 113, none, [], .p (.iaddrA 8 1 (.t 112) (.t 104))⟩,
        ⟨none, none, [], .w (.store1 (.t 113) (.t 110))⟩]))) (
  .region [
    ⟨some 114, none, [], .p (.bin .add (.t 99) (.c (.int .i64 1)))⟩,
    ⟨some 99, none, [], .p (.mv (.t 114))⟩])))

abbrev k43_0 : List Nat := [0, 4, 5, 22, 23]
abbrev a43_0 : List Nat := [0, 5]
abbrev e43_0 (v0 v4 v5 v22 v23 : AV) : Env := [v0, .dead, .dead, .dead, v4, v5, .dead, .dead, .dead, .dead, .dead, .dead, .dead, .dead, .dead, .dead, .dead, .dead, .dead, .dead, .dead, .dead, v22, v23, .dead, .dead, .dead, .dead, .dead, .dead, .dead, .dead, .dead, .dead, .dead, .dead, .dead, .dead, .dead, .dead, .dead, .dead, .dead, .dead, .dead, .dead, .dead, .dead, .dead, .dead, .dead, .dead, .dead, .dead, .dead, .dead, .dead, .dead, .dead, .dead, .dead, .dead, .dead, .dead, .dead, .dead, .dead, .dead, .dead, .dead, .dead, .dead, .dead, .dead, .dead, .dead, .dead, .dead, .dead, .dead, .dead, .dead, .dead, .dead, .dead, .dead, .dead, .dead, .dead, .dead, .dead, .dead, .dead, .dead, .dead, .dead, .dead, .dead, .dead, .dead, .dead, .dead, .dead, .dead, .dead, .dead, .dead, .dead, .dead, .dead, .dead, .dead, .dead, .dead, .dead]
abbrev x43_0 (v0 v5 : AV) : Env := [v0, .dead, .dead, .dead, .dead, v5, .dead, .dead, .dead, .dead, .dead, .dead, .dead, .dead, .dead, .dead, .dead, .dead, .dead, .dead, .dead, .dead, .dead, .dead, .dead, .dead, .dead, .dead, .dead, .dead, .dead, .dead, .dead, .dead, .dead, .dead, .dead, .dead, .dead, .dead, .dead, .dead, .dead, .dead, .dead, .dead, .dead, .dead, .dead, .dead, .dead, .dead, .dead, .dead, .dead, .dead, .dead, .dead, .dead, .dead, .dead, .dead, .dead, .dead, .dead, .dead, .dead, .dead, .dead, .dead, .dead, .dead, .dead, .dead, .dead, .dead, .dead, .dead, .dead, .dead, .dead, .dead, .dead, .dead, .dead, .dead, .dead, .dead, .dead, .dead, .dead, .dead, .dead, .dead, .dead, .dead, .dead, .dead, .dead, .dead, .dead, .dead, .dead, .dead, .dead, .dead, .dead, .dead, .dead, .dead, .dead, .dead, .dead, .dead, .dead]
def s43_b0 : SCode :=
  .seq (
    .region [
      ⟨some 24, none, [], .p (.bin .lss (.t 23) (.c (.int .i64 64)))⟩]) (
  .seq (
    .cond (.t 24) (
      .skip) (
      .exit 0)) (
  .seq (
    .block 1 (
      .seq (
        .region [
          ⟨some 25, none, [], .p (.mv (.t 23))⟩,
          ⟨some 26, none, [], .p (.idxA 64 (.t 22) (.t 23))⟩,
          ⟨some 6, none, [], .p (.mv (.t 25))⟩,
          ⟨some 7, none, [], .p (.mv (.t 26))⟩]) (
      .seq (
        .region [
          ⟨some 27, none, [], .p (.iaddrA 8 1 (.t 5) (.c (.int .i64 0)))⟩,
          ⟨some 28, none, [], .r (.load1 (.t 27))⟩,
          ⟨some 29, none, [], .p (.iaddrA 8 1 (.t 5) (.c (.int .i64 4)))⟩,
          ⟨some 30, none, [], .r (.load1 (.t 29))⟩,
          ⟨some 8, none, [], .p (.mv (.t 28))⟩,
          ⟨some 9, none, [], .p (.mv (.t 30))⟩]) (
      .seq (
        .region [
          ⟨some 31, none, [], .p (.mv (.t 9))⟩,
          ⟨some 32, none, [], .call 20004 4 true (.f 61) [.t 31, .c (.int .i64 6)]⟩,
          ⟨some 33, none, [], .p (.mv (.t 9))⟩,
          ⟨some 34, none, [], .call 20012 4 true (.f 61) [.t 33, .c (.int .i64 11)]⟩,
          ⟨some 35, none, [], .p (.bin .xor (.t 32) (.t 34))⟩,
          ⟨some 36, none, [], .p (.mv (.t 9))⟩,
          ⟨some 37, none, [], .call 20024 4 true (.f 61) [.t 36, .c (.int .i64 25)]⟩,
          ⟨some 38, none, [], .p (.bin .xor (.t 35) (.t 37))⟩,
          ⟨some 10, none, [], .p (.mv (.t 38))⟩]) (
      .seq (
        .region [
          ⟨some 39, none, [], .p (.mv (.t 8))⟩,
          ⟨some 40, none, [], .call 24004 4 true (.f 61) [.t 39, .c (.int .i64 2)]⟩,
          ⟨some 41, none, [], .p (.mv (.t 8))⟩,
          ⟨some 42, none, [], .call 24012 4 true (.f 61) [.t 41, .c (.int .i64 13)]⟩,
          ⟨some 43, none, [], .p (.bin .xor (.t 40) (.t 42))⟩,
          ⟨some 44, none, [], .p (.mv (.t 8))⟩,
          ⟨some 45, none, [], .call 24024 4 true (.f 61) [.t 44, .c (.int .i64 22)]⟩,
          ⟨some 46, none, [], .p (.bin .xor (.t 43) (.t 45))⟩,
          ⟨some 11, none, [], .p (.mv (.t 46))⟩]) (
      .seq (
        .region [
          ⟨some 47, none, [], .p (.iaddrA 8 1 (.t 5) (.c (.int .i64 7)))⟩,
          ⟨some 48, none, [], .r (.load1 (.t 47))⟩,
          ⟨some 49, none, [], .p (.mv (.t 10))⟩,
          ⟨some 50, none, [], .p (.bin .add (.t 48) (.t 49))⟩,
          ⟨some 51, none, [], .p (.mv (.t 9))⟩,
          ⟨some 52, none, [], .p (.iaddrA 8 1 (.t 5) (.c (.int .i64 5)))⟩,
          ⟨some 53, none, [], .r (.load1 (.t 52))⟩,
          ⟨some 54, none, [], .p (.bin .and (.t 51) (.t 53))⟩,
          ⟨some 55, none, [], .p (.mv (.t 9))⟩,
          ⟨some 56, none, [], .p (.un .xor (.t 55))⟩,
          ⟨some 57, none, [], .p (.iaddrA 8 1 (.t 5) (.c (.int .i64 6)))⟩,
          ⟨some 58, none, [], .r (.load1 (.t 57))⟩,
          ⟨some 59, none, [], .p (.bin .and (.t 56) (.t 58))⟩,
          ⟨some 60, none, [], .p (.bin .xor (.t 54) (.t 59))⟩,
          ⟨some 61, none, [], .p (.bin .add (.t 50) (.t 60))⟩,
          ⟨some 62, none, [], .p (.mv (.t 7))⟩,
          ⟨some 63, none, [], .p (.bin .add (.t 61) (.t 62))⟩,
          ⟨some 64, none, [], .p (.mv (.t 6))⟩,
          ⟨some 65, none, [], .p (.iaddrA 64 1 (.t 4) (.t 64))⟩,
          ⟨some 66, none, [], .r (.load1 (.t 65))⟩,
          ⟨some 67, none, [], .p (.bin .add (.t 63) (.t 66))⟩,
          ⟨some 12, none, [], .p (.mv (.t 67))⟩]) (
      .seq (
        .region [
          ⟨some 68, none, [], .p (.mv (.t 11))⟩,
          ⟨some 69, none, [], .p (.mv (.t 8))⟩,
          ⟨some 70, none, [], .p (.iaddrA 8 1 (.t 5) (.c (.int .i64 1)))⟩,
          ⟨some 71, none, [], .r (.load1 (.t 70))⟩,
          ⟨some 72, none, [], .p (.bin .and (.t 69) (.t 71))⟩,
          ⟨some 73, none, [], .p (.mv (.t 8))⟩,
          ⟨some 74, none, [], .p (.iaddrA 8 1 (.t 5) (.c (.int .i64 2)))⟩,
          ⟨some 75, none, [], .r (.load1 (.t 74))⟩,
          ⟨some 76, none, [], .p (.bin .and (.t 73) (.t 75))⟩,
          ⟨some 77, none, [], .p (.bin .xor (.t 72) (.t 76))⟩,
          ⟨some 78, none, [], .p (.iaddrA 8 1 (.t 5) (.c (.int .i64 1)))⟩,
          ⟨some 79, none, [], .r (.load1 (.t 78))⟩,
          ⟨some 80, none, [], .p (.iaddrA 8 1 (.t 5) (.c (.int .i64 2)))⟩,
          ⟨some 81, none, [], .r (.load1 (.t 80))⟩,
          ⟨some 82, none, [], .p (.bin .and (.t 79) (.t 81))⟩,
          ⟨some 83, none, [], .p (.bin .xor (.t 77) (.t 82))⟩,
          ⟨some 84, none, [], .p (.bin .add (.t 68) (.t 83))⟩,
          ⟨some 13, none, [], .p (.mv (.t 84))⟩]) (
      .seq (
        .region [
          ⟨some 85, none, [], .p (.slcA 8 1 (.t 5) (some (.c (.int .i64 1))) none)⟩,
          ⟨some 86, none, [], .p (.slcA 8 1 (.t 5) none (some (.c (.int .i64 7))))⟩,
          ⟨some 87, none, [], .w (.copy 1 (.t 85) (.t 86))⟩]) (
      .region [
        ⟨some 88, none, [], .p (.mv (.t 12))⟩,
        ⟨some 89, none, [], .p (.mv (.t 13))⟩,
        ⟨some 90, none, [], .p (.bin .add (.t 88) (.t 89))⟩,
        ⟨some 91, none, [], .p (.iaddrA 8 1 (.t 5) (.c (.int .i64 4)))⟩,
        ⟨some 92, none, [], .r (.load1 (.t 91))⟩,
        ⟨some 93, none, [], .p (.mv (.t 12))⟩,
        ⟨some 94, none, [], .p (.bin .add (.t 92) (.t 93))⟩,
        ⟨some 95, none, [], .p (.iaddrA 8 1 (.t 5) (.c (.int .i64 0)))⟩,
        ⟨none, none, [], .w (.store1 (.t 95) (.t 90))⟩,
        ⟨some 96, none, [], .p (.iaddrA 8 1 (.t 5) (.c (.int .i64 4)))⟩,
        ⟨none, none, [], .w (.store1 (.t 96) (.t 94))⟩]))))))))) (
  .region [
    ⟨some 97, none, [], .p (.bin .add (.t 23) (.c (.int .i64 1)))⟩,
    ⟨some 23, none, [], .p (.mv (.t 97))⟩])))

def s43 : SFunc := ⟨
  .seq (
    .regionF [
      ⟨some 16, none, [], .p (.mv (.t 1))⟩,
      ⟨some 17, none, [24, 28], .call 4 4 true (.f 60) [.t 16]⟩,
      ⟨some 18, none, [], .p (.mv (.t 0))⟩,
      ⟨some 19, none, [], .p (.nilChk (.t 18))⟩,
      ⟨some 20, none, [], .p (.faddr 0 (.t 19))⟩,
      ⟨some 21, none, [4, 5, 6, 7, 24, 28], .r (.loadN 8 (.t 20))⟩,
      ⟨some 4, none, [4, 5, 6, 7, 28], .a 24 (.alloc [u32 0#32, u32 0#32, u32 0#32, u32 0#32, u32 0#32, u32 0#32, u32 0#32, u32 0#32, u32 0#32, u32 0#32, u32 0#32, u32 0#32, u32 0#32, u32 0#32, u32 0#32, u32 0#32, u32 0#32, u32 0#32, u32 0#32, u32 0#32, u32 0#32, u32 0#32, u32 0#32, u32 0#32, u32 0#32, u32 0#32, u32 0#32, u32 0#32, u32 0#32, u32 0#32, u32 0#32, u32 0#32, u32 0#32, u32 0#32, u32 0#32, u32 0#32, u32 0#32, u32 0#32, u32 0#32, u32 0#32, u32 0#32, u32 0#32, u32 0#32, u32 0#32, u32 0#32, u32 0#32, u32 0#32, u32 0#32, u32 0#32, u32 0#32, u32 0#32, u32 0#32, u32 0#32, u32 0#32, u32 0#32, u32 0#32, u32 0#32, u32 0#32, u32 0#32, u32 0#32, u32 0#32, u32 0#32, u32 0#32, u32 0#32])⟩,
      ⟨some 5, none, [4, 5, 6, 7, 24], .a 28 (.alloc [u32 0#32, u32 0#32, u32 0#32, u32 0#32, u32 0#32, u32 0#32, u32 0#32, u32 0#32])⟩,
      ⟨none, none, [], .w (.storeN 64 (.t 4) (.t 17))⟩,
      ⟨none, none, [], .w (.storeN 8 (.t 5) (.t 21))⟩] [(20, 4)]) (
  .seq (
    .seq (
      .region [
        ⟨some 22, none, [], .r (.loadN 64 (.g 3 64))⟩,
        ⟨some 23, none, [], .p (.mv (.c (.int .i64 0)))⟩]) (
    .block 0 (
      .loop k43_0 a43_0 s43_b0))) (
  .seq (
    .region [
      ⟨some 98, none, [], .r (.loadN 8 (.t 5))⟩,
      ⟨some 99, none, [], .p (.mv (.c (.int .i64 0)))⟩]) (
  .block 2 (
    .loop k43_1 a43_1 s43_b1)))),
  115, []⟩

theorem c43 : cFunc Tryd.prog quiet Tryd.f43 [[0, 4, 5, 22, 23], [0, 5], [0, 98, 99], []] = some s43 := by kernel_rfl

-- 45 calls []
abbrev k45_0 : List Nat := [3, 10, 11, 12]
abbrev a45_0 : List Nat := [3]
abbrev e45_0 (v3 v10 v11 v12 : AV) : Env := [.dead, .dead, .dead, v3, .dead, .dead, .dead, .dead, .dead, .dead, v10, v11, v12, .dead, .dead, .dead, .dead, .dead, .dead, .dead, .dead, .dead, .dead, .dead, .dead, .dead, .dead, .dead, .dead, .dead, .dead, .dead, .dead]
abbrev x45_0 (v3 : AV) : Env := [.dead, .dead, .dead, v3, .dead, .dead, .dead, .dead, .dead, .dead, .dead, .dead, .dead, .dead, .dead, .dead, .dead, .dead, .dead, .dead, .dead, .dead, .dead, .dead, .dead, .dead, .dead, .dead, .dead, .dead, .dead, .dead, .dead]
def s45_b0 : SCode :=
  .seq (
    .region [
      ⟨some 13, none, [], .p (.bin .lss (.t 12) (.t 11))⟩]) (
  .seq (
    .cond (.t 13) (
      .skip) (
      .exit 0)) (
  .seq (
    .block 1 (
      .seq (
        .region [
          ⟨some 14, none, [], .p (.iaddrS 1 (.t 10) (.t 12))⟩,
          ⟨some 15, none, [], .r (.load1 (.t 14))⟩,
          ⟨some 5, none, [], .p (.mv (.t 15))⟩]) (
      .region [
        ⟨some 16, none, [], .p (.mv (.t 3))⟩,
        ⟨some 17, none, [], .p (.mv (.t 5))⟩,
        ⟨some 18, none, [], .p (.bin .shr (.t 17) (.c (u64 24#64)))⟩,
        ⟨some 19, none, [], .p (.conv .u8 (.t 18))⟩,
        ⟨some 20, none, [], .p (.mv (.t 5))⟩,
        ⟨some 21, none, [], .p (.bin .shr (.t 20) (.c (u64 16#64)))⟩,
        ⟨some 22, none, [], .p (.conv .u8 (.t 21))⟩,
        ⟨some 23, none, [], .p (.mv (.t 5))⟩,
        ⟨some 24, none, [], .p (.bin .shr (.t 23) (.c (u64 8#64)))⟩,
        ⟨some 25, none, [], .p (.conv .u8 (.t 24))⟩,
        ⟨some 26, none, [], .p (.mv (.t 5))⟩,
        ⟨some 27, none, [], .p (.conv .u8 (.t 26))⟩,
        ⟨some 28, none, [], .a 20048 (.buildS 1 4 [byteAV 0] [(0, 1, .t 19), (1, 1, .t 22), (2, 1, .t 25), (3, 1, .t 27)])⟩,
        ⟨some 29, none, [], .w (.append 20052 1 1 (.t 16) (.t 28))⟩,
        ⟨some 3, none, [], .p (.mv (.t 29))⟩]))) (
  .region [
    ⟨some 30, none, [], .p (.bin .add (.t 12) (.c (.int .i64 1)))⟩,
    ⟨some 12, none, [], .p (.mv (.t 30))⟩])))

def s45 : SFunc := ⟨
  .seq (
    .region [
      ⟨some 2, none, [], .p (.mv (.c (.str [])))⟩]) (
  .seq (
    .region [
      ⟨some 6, none, [], .p (.mv (.t 0))⟩,
      ⟨some 7, none, [], .p (.lenV true (.t 6))⟩,
      ⟨some 8, none, [], .p (.bin .mul (.c (.int .i64 4)) (.t 7))⟩,
      ⟨some 9, none, [], .a 4012 (.mkSlice 1 1 [byteAV 0] (.c (.int .i64 0)) (.t 8))⟩,
      ⟨some 3, none, [], .p (.mv (.t 9))⟩]) (
  .seq (
    .seq (
      .region [
        ⟨some 10, none, [], .p (.mv (.t 0))⟩,
        ⟨some 11, none, [], .p (.lenV true (.t 10))⟩,
        ⟨some 12, none, [], .p (.mv (.c (.int .i64 0)))⟩]) (
    .block 0 (
      .loop k45_0 a45_0 s45_b0))) (
  .seq (
    .region [
      ⟨some 31, none, [], .p (.mv (.t 3))⟩,
      ⟨some 32, none, [], .r (.toStr (.t 31))⟩,
      ⟨some 2, none, [], .p (.mv (.t 32))⟩]) (
  .ret)))),
  33, [Sum.inl 2]⟩

theorem c45 : cFunc Tryd.prog quiet Tryd.f45 [[3, 10, 11, 12], [3]] = some s45 := by kernel_rfl

-- 55 calls []
abbrev k55_1 : List Nat := [0, 1, 6, 7, 8, 9]
abbrev a55_1 : List Nat := [0, 1, 6, 7, 8]
abbrev e55_1 (v0 v1 v6 v7 v8 v9 : AV) : Env := [v0, v1, .dead, .dead, .dead, .dead, v6, v7, v8, v9, .dead, .dead, .dead, .dead, .dead, .dead, .dead, .dead, .dead, .dead, .dead, .dead, .dead, .dead, .dead, .dead, .dead, .dead, .dead, .dead, .dead, .dead, .dead, .dead, .dead, .dead, .dead, .dead, .dead, .dead, .dead, .dead, .dead, .dead, .dead]
abbrev x55_1 (v0 v1 v6 v7 v8 : AV) : Env := [v0, v1, .dead, .dead, .dead, .dead, v6, v7, v8, .dead, .dead, .dead, .dead, .dead, .dead, .dead, .dead, .dead, .dead, .dead, .dead, .dead, .dead, .dead, .dead, .dead, .dead, .dead, .dead, .dead, .dead, .dead, .dead, .dead, .dead, .dead, .dead, .dead, .dead, .dead, .dead, .dead, .dead, .dead, .dead]
def s55_b1 : SCode :=
  .seq (
    .seq (
      .region [
        ⟨some 21, none, [], .p (.mv (.t 9))⟩,
        ⟨some 22, none, [], .p (.bin .lss (.t 21) (.c (.int .i64 4)))⟩]) (
    .cond (.t 22) (
      .skip) (
      .exit 2))) (
  .seq (
    .block 3 (
      .seq (
        .region [
          ⟨some 25, none, [], .p (.mv (.t 7))⟩,
          ⟨some 26, none, [], .p (.bin .add (.t 25) (.c (.int .i64 3)))⟩,
          ⟨some 27, none, [], .p (.mv (.t 9))⟩,
          ⟨some 28, none, [], .p (.bin .sub (.t 26) (.t 27))⟩,
          ⟨some 10, none, [], .p (.mv (.t 28))⟩]) (
      .seq (
        .seq (
          .region [
            ⟨some 29, none, [], .p (.mv (.t 1))⟩]) (
        .cond (.t 29) (
          .region [
            ⟨some 30, none, [], .p (.mv (.t 7))⟩,
            ⟨some 31, none, [], .p (.mv (.t 9))⟩,
            ⟨some 32, none, [], .p (.bin .add (.t 30) (.t 31))⟩,
            ⟨some 10, none, [], .p (.mv (.t 32))⟩]) (
          .skip))) (
      .region [
        ⟨some 33, none, [], .p (.mv (.t 8))⟩,
        ⟨some 34, none, [], .p (.bin .mul (.c (u32 256#32)) (.t 33))⟩,
        ⟨some 35, none, [], .p (.mv (.t 0))⟩,
        ⟨some 36, none, [], .p (.mv (.t 10))⟩,
        ⟨some 37, none, [], .p (.idxStr (.t 35) (.t 36))⟩,
        ⟨some 38, none, [], .p (.conv .u32 (.t 37))⟩,
        ⟨some 39, none, [], .p (.bin .add (.t 34) (.t 38))⟩,
        ⟨some 8, none, [], .p (.mv (.t 39))⟩])))) (
  .region [
    ⟨some 23, none, [], .p (.mv (.t 9))⟩,
    ⟨some 24, none, [], .p (.bin .add (.t 23) (.c (.int .i64 1)))⟩,
    ⟨some 9, none, [], .p (.mv (.t 24))⟩]))

abbrev k55_0 : List Nat := [0, 1, 6, 7]
abbrev a55_0 : List Nat := [6]
abbrev e55_0 (v0 v1 v6 v7 : AV) : Env := [v0, v1, .dead, .dead, .dead, .dead, v6, v7, .dead, .dead, .dead, .dead, .dead, .dead, .dead, .dead, .dead, .dead, .dead, .dead, .dead, .dead, .dead, .dead, .dead, .dead, .dead, .dead, .dead, .dead, .dead, .dead, .dead, .dead, .dead, .dead, .dead, .dead, .dead, .dead, .dead, .dead, .dead, .dead, .dead]
abbrev x55_0 (v6 : AV) : Env := [.dead, .dead, .dead, .dead, .dead, .dead, v6, .dead, .dead, .dead, .dead, .dead, .dead, .dead, .dead, .dead, .dead, .dead, .dead, .dead, .dead, .dead, .dead, .dead, .dead, .dead, .dead, .dead, .dead, .dead, .dead, .dead, .dead, .dead, .dead, .dead, .dead, .dead, .dead, .dead, .dead, .dead, .dead, .dead, .dead]
def s55_b0 : SCode :=
  .seq (
    .seq (
      .region [
        ⟨some 15, none, [], .p (.mv (.t 7))⟩,
        ⟨some 16, none, [], .p (.mv (.t 0))⟩,
        ⟨some 17, none, [], .p (.lenV false (.t 16))⟩,
        ⟨some 18, none, [], .p (.bin .lss (.t 15) (.t 17))⟩]) (
    .cond (.t 18) (
      .skip) (
      .exit 0))) (
  .seq (
    .block 1 (
      .seq (
        .region [
          ⟨some 8, none, [], .p (.mv (.c (u32 0#32)))⟩]) (
      .seq (
        .seq (
          .region [
            ⟨some 9, none, [], .p (.mv (.c (.int .i64 0)))⟩]) (
        .block 2 (
          .loop k55_1 a55_1 s55_b1))) (
      .region [
        ⟨some 40, none, [], .p (.mv (.t 6))⟩,
        ⟨some 41, none, [], .p (.mv (.t 8))⟩,
        ⟨some 42, none, [], .a 60008 (.buildS 1 1 [u32 0#32] [(0, 1, .t 41)])⟩,
        ⟨some 43, none, [], .w (.append 60012 1 4 (.t 40) (.t 42))⟩,
        ⟨some 6, none, [], .p (.mv (.t 43))⟩])))) (
  .region [
    ⟨some 19, none, [], .p (.mv (.t 7))⟩,
    ⟨some 20, none, [], .p (.bin .add (.t 19) (.c (.int .i64 4)))⟩,
    ⟨some 7, none, [], .p (.mv (.t 20))⟩]))

def s55 : SFunc := ⟨
  .seq (
    .region [
      ⟨some 4, none, [], .p (.mv (.c (.slice none 0 0)))⟩,
      ⟨some 5, none, [], .p (.mv (.c (.int .i64 0)))⟩]) (
  .seq (
    .seq (
      .region [
        ⟨some 11, none, [], .p (.mv (.t 0))⟩,
        ⟨some 12, none, [], .p (.lenV false (.t 11))⟩,
        ⟨some 13, none, [], .p (.bin .rem (.t 12) (.c (.int .i64 4)))⟩,
        ⟨some 14, none, [], .p (.bin .neq (.t 13) (.c (.int .i64 0)))⟩]) (
    .cond (.t 14) (
      .seq (
        .region [
          ⟨some 4, none, [], .p (.mv (.c (.slice none 0 0)))⟩,
          ⟨some 5, none, [], .p (.mv (.c (.int .i64 7)))⟩]) (
      .ret)) (
      .skip))) (
  .seq (
    .region [
      ⟨some 6, none, [], .p (.mv (.c (.slice none 0 0)))⟩]) (
  .seq (
    .seq (
      .region [
        ⟨some 7, none, [], .p (.mv (.c (.int .i64 0)))⟩]) (
    .block 0 (
      .loop k55_0 a55_0 s55_b0))) (
  .seq (
    .region [
      ⟨some 44, none, [], .p (.mv (.t 6))⟩,
      ⟨some 4, none, [], .p (.mv (.t 44))⟩,
      ⟨some 5, none, [], .p (.mv (.c (.int .i64 0)))⟩]) (
  .ret))))),
  45, [Sum.inl 4, Sum.inl 5]⟩

theorem c55 : cFunc Tryd.prog quiet Tryd.f55 [[0, 1, 6, 7], [6], [0, 1, 6, 7, 8, 9], [0, 1, 6, 7, 8]] = some s55 := by kernel_rfl

-- 56 calls [70]
def s56 : SFunc := ⟨
  .seq (
    .region [
      ⟨some 8, none, [], .p (.mv (.c (u32 0#32)))⟩]) (
  .seq (
    .region [
      ⟨some 11, none, [], .p (.mv (.t 0))⟩,
      ⟨some 12, none, [], .p (.mv (.t 1))⟩,
      ⟨some 13, none, [], .call 4008 4 true (.f 70) [.t 11, .t 12]⟩,
      ⟨some 9, none, [], .p (.mv (.t 13))⟩]) (
  .seq (
    .region [
      ⟨some 14, none, [], .p (.mv (.t 0))⟩,
      ⟨some 15, none, [], .p (.mv (.t 2))⟩,
      ⟨some 16, none, [], .call 8008 4 true (.f 70) [.t 14, .t 15]⟩,
      ⟨some 10, none, [], .p (.mv (.t 16))⟩]) (
  .seq (
    .region [
      ⟨some 17, none, [], .p (.mv (.t 9))⟩,
      ⟨some 18, none, [], .p (.mv (.t 10))⟩,
      ⟨some 19, none, [], .p (.bin .xor (.t 17) (.t 18))⟩,
      ⟨some 20, none, [], .p (.mv (.t 0))⟩,
      ⟨some 21, none, [], .p (.mv (.t 3))⟩,
      ⟨some 22, none, [], .p (.bin .quo (.t 20) (.t 21))⟩,
      ⟨some 23, none, [], .p (.bin .xor (.t 19) (.t 22))⟩,
      ⟨some 8, none, [], .p (.mv (.t 23))⟩]) (
  .ret)))),
  24, [Sum.inl 8]⟩

theorem c56 : cFunc Tryd.prog quiet Tryd.f56 [] = some s56 := by kernel_rfl

-- 57 calls [70]
def s57 : SFunc := ⟨
  .seq (
    .region [
      ⟨some 8, none, [], .p (.mv (.c (u32 0#32)))⟩]) (
  .seq (
    .region [
      ⟨some 12, none, [], .p (.mv (.t 0))⟩,
      ⟨some 13, none, [], .p (.mv (.t 1))⟩,
      ⟨some 14, none, [], .call 4008 4 true (.f 70) [.t 12, .t 13]⟩,
      ⟨some 9, none, [], .p (.mv (.t 14))⟩]) (
  .seq (
    .region [
      ⟨some 15, none, [], .p (.mv (.t 0))⟩,
      ⟨some 16, none, [], .p (.mv (.t 2))⟩,
      ⟨some 17, none, [], .call 8008 4 true (.f 70) [.t 15, .t 16]⟩,
      ⟨some 10, none, [], .p (.mv (.t 17))⟩]) (
  .seq (
    .region [
      ⟨some 18, none, [], .p (.mv (.t 0))⟩,
      ⟨some 19, none, [], .p (.mv (.t 3))⟩,
      ⟨some 20, none, [], .call 12008 4 true (.f 70) [.t 18, .t 19]⟩,
      ⟨some 11, none, [], .p (.mv (.t 20))⟩]) (
  .seq (
    .region [
      ⟨some 21, none, [], .p (.mv (.t 9))⟩,
      ⟨some 22, none, [], .p (.mv (.t 10))⟩,
      ⟨some 23, none, [], .p (.bin .xor (.t 21) (.t 22))⟩,
      ⟨some 24, none, [], .p (.mv (.t 11))⟩,
      ⟨some 25, none, [], .p (.bin .xor (.t 23) (.t 24))⟩,
      ⟨some 8, none, [], .p (.mv (.t 25))⟩]) (
  .ret))))),
  26, [Sum.inl 8]⟩

theorem c57 : cFunc Tryd.prog quiet Tryd.f57 [] = some s57 := by kernel_rfl

-- 58 calls []
def s58 : SFunc := ⟨
  .seq (
    .region [
      ⟨some 6, none, [], .p (.mv (.c (u32 0#32)))⟩]) (
  .seq (
    .region [
      ⟨some 7, none, [], .p (.mv (.t 0))⟩,
      ⟨some 8, none, [], .p (.mv (.t 1))⟩,
      ⟨some 9, none, [], .p (.bin .and (.t 7) (.t 8))⟩,
      ⟨some 10, none, [], .p (.mv (.t 0))⟩,
      ⟨some 11, none, [], .p (.bin .sub (.c (u32 4294967295#32)) (.t 10))⟩,
      ⟨some 12, none, [], .p (.mv (.t 2))⟩,
      ⟨some 13, none, [], .p (.bin .and (.t 11) (.t 12))⟩,
      ⟨some 14, none, [], .p (.bin .xor (.t 9) (.t 13))⟩,
      ⟨some 6, none, [], .p (.mv (.t 14))⟩]) (
  .ret)),
  15, [Sum.inl 6]⟩

theorem c58 : cFunc Tryd.prog quiet Tryd.f58 [] = some s58 := by kernel_rfl

-- 59 calls []
def s59 : SFunc := ⟨
  .seq (
    .region [
      ⟨some 6, none, [], .p (.mv (.c (u32 0#32)))⟩]) (
  .seq (
    .region [
      ⟨some 7, none, [], .p (.mv (.t 0))⟩,
      ⟨some 8, none, [], .p (.mv (.t 1))⟩,
      ⟨some 9, none, [], .p (.bin .and (.t 7) (.t 8))⟩,
      ⟨some 10, none, [], .p (.mv (.t 0))⟩,
      ⟨some 11, none, [], .p (.mv (.t 2))⟩,
      ⟨some 12, none, [], .p (.bin .and (.t 10) (.t 11))⟩,
      ⟨some 13, none, [], .p (.bin .xor (.t 9) (.t 12))⟩,
      ⟨some 14, none, [], .p (.mv (.t 1))⟩,
      ⟨some 15, none, [], .p (.mv (.t 2))⟩,
      ⟨some 16, none, [], .p (.bin .and (.t 14) (.t 15))⟩,
      ⟨some 17, none, [], .p (.bin .xor (.t 13) (.t 16))⟩,
      ⟨some 6, none, [], .p (.mv (.t 17))⟩]) (
  .ret)),
  18, [Sum.inl 6]⟩

theorem c59 : cFunc Tryd.prog quiet Tryd.f59 [] = some s59 := by kernel_rfl

-- 60 calls [61, 71]
abbrev k60_0 : List Nat := [2, 3, 6]
abbrev a60_0 : List Nat := [2, 3]
abbrev e60_0 (v2 v3 v6 : AV) : Env := [.dead, .dead, v2, v3, .dead, .dead, v6, .dead, .dead, .dead, .dead, .dead, .dead, .dead, .dead, .dead, .dead, .dead, .dead, .dead, .dead, .dead, .dead, .dead, .dead, .dead, .dead, .dead, .dead, .dead, .dead, .dead, .dead, .dead, .dead, .dead, .dead, .dead, .dead, .dead, .dead, .dead, .dead, .dead, .dead, .dead, .dead, .dead, .dead, .dead, .dead, .dead, .dead, .dead, .dead, .dead, .dead, .dead, .dead, .dead, .dead, .dead, .dead]
abbrev x60_0 (v2 v3 : AV) : Env := [.dead, .dead, v2, v3, .dead, .dead, .dead, .dead, .dead, .dead, .dead, .dead, .dead, .dead, .dead, .dead, .dead, .dead, .dead, .dead, .dead, .dead, .dead, .dead, .dead, .dead, .dead, .dead, .dead, .dead, .dead, .dead, .dead, .dead, .dead, .dead, .dead, .dead, .dead, .dead, .dead, .dead, .dead, .dead, .dead, .dead, .dead, .dead, .dead, .dead, .dead, .dead, .dead, .dead, .dead, .dead, .dead, .dead, .dead, .dead, .dead, .dead, .dead]
def s60_b0 : SCode :=
  .seq (
    .seq (
      .region [
        ⟨some 19, none, [], .p (.mv (.t 6))⟩,
        ⟨some 20, none, [], .p (.bin .lss (.t 19) (.c (.int .i64 64)))⟩]) (
    .cond (.t 20) (
      .skip) (
      .exit 0))) (
  .seq (
    .block 1 (
      .seq (
        .region [
          ⟨some 23, none, [], .p (.mv (.t 6))⟩,
          ⟨some 24, none, [], .p (.bin .sub (.t 23) (.c (.int .i64 15)))⟩,
          ⟨some 25, none, [], .p (.iaddrA 64 1 (.t 3) (.t 24))⟩,
          ⟨some 26, none, [], .r (.load1 (.t 25))⟩,
          ⟨some 27, none, [], .p (.mv (.t 6))⟩,
          ⟨some 28, none, [], .p (.bin .sub (.t 27) (.c (.int .i64 2)))⟩,
          ⟨some 29, none, [], .p (.iaddrA 64 1 (.t 3) (.t 28))⟩,
          ⟨some 30, none, [], .r (.load1 (.t 29))⟩,
          ⟨some 7, none, [], .p (.mv (.t 26))⟩,
          ⟨some 8, none, [], .p (.mv (.t 30))⟩]) (
      .seq (
        .region [
          ⟨some 31, none, [], .p (.mv (.t 7))⟩,
          ⟨some 32, none, [], .call 32004 4 true (.f 61) [.t 31, .c (.int .i64 7)]⟩,
          ⟨some 33, none, [], .p (.mv (.t 7))⟩,
          ⟨some 34, none, [], .call 32012 4 true (.f 61) [.t 33, .c (.int .i64 18)]⟩,
          ⟨some 35, none, [], .p (.bin .xor (.t 32) (.t 34))⟩,
          ⟨some 36, none, [], .p (.mv (.t 7))⟩,
          ⟨some 37, none, [], .p (.bin .shr (.t 36) (.c (u64 3#64)))⟩,
          ⟨some 38, none, [], .p (.bin .xor (.t 35) (.t 37))⟩,
          ⟨some 9, none, [], .p (.mv (.t 38))⟩]) (
      .seq (
        .region [
          ⟨some 39, none, [], .p (.mv (.t 8))⟩,
          ⟨some 40, none, [], .call 36004 4 true (.f 61) [.t 39, .c (.int .i64 17)]⟩,
          ⟨some 41, none, [], .p (.mv (.t 8))⟩,
          ⟨some 42, none, [], .call 36012 4 true (.f 61) [.t 41, .c (.int .i64 19)]⟩,
          ⟨some 43, none, [], .p (.bin .xor (.t 40) (.t 42))⟩,
          ⟨some 44, none, [], .p (.mv (.t 8))⟩,
          ⟨some 45, none, [], .p (.bin .shr (.t 44) (.c (u64 10#64)))⟩,
          ⟨some 46, none, [], .p (.bin .xor (.t 43) (.t 45))⟩,
          ⟨some 10, none, [], .p (.mv (.t 46))⟩]) (
      .region [
        ⟨some 47, none, [], .p (.mv (.t 6))⟩,
        ⟨some 48, none, [], .p (.mv (.t 6))⟩,
        ⟨some 49, none, [], .p (.bin .sub (.t 48) (.c (.int .i64 16)))⟩,
        ⟨some 50, none, [], .p (.iaddrA 64 1 (.t 3) (.t 49))⟩,
        ⟨some 51, none, [], .r (.load1 (.t 50))⟩,
        ⟨some 52, none, [], .p (.mv (.t 9))⟩,
        ⟨some 53, none, [], .p (.bin .add (.t 51) (.t 52))⟩,
        ⟨some 54, none, [], .p (.mv (.t 6))⟩,
        ⟨some 55, none, [], .p (.bin .sub (.t 54) (.c (.int .i64 7)))⟩,
        ⟨some 56, none, [], .p (.iaddrA 64 1 (.t 3) (.t 55))⟩,
        ⟨some 57, none, [], .r (.load1 (.t 56))⟩,
        ⟨some 58, none, [], .p (.bin .add (.t 53) (.t 57))⟩,
        ⟨some 59, none, [], .p (.mv (.t 10))⟩,
        ⟨some 60, none, [], .p (.bin .add (.t 58) (.t 59))⟩,
        ⟨some 61, none, [], .p (.iaddrA 64 1 (.t 3) (.t 47))⟩,
        ⟨none, none, [], .w (.store1 (.t 61) (.t 60))⟩]))))) (
  .region [
    ⟨some 21, none, [], .p (.mv (.t 6))⟩,
    ⟨some 22, none, [], .p (.bin .add (.t 21) (.c (.int .i64 1)))⟩,
    ⟨some 6, none, [], .p (.mv (.t 22))⟩]))

def s60 : SFunc := ⟨
  .seq (
    .region [
      ⟨some 2, none, [], .a 0 (.alloc [u32 0#32, u32 0#32, u32 0#32, u32 0#32, u32 0#32, u32 0#32, u32 0#32, u32 0#32, u32 0#32, u32 0#32, u32 0#32, u32 0#32, u32 0#32, u32 0#32, u32 0#32, u32 0#32, u32 0#32, u32 0#32, u32 0#32, u32 0#32, u32 0#32, u32 0#32, u32 0#32, u32 0#32, u32 0#32, u32 0#32, u32 0#32, u32 0#32, u32 0#32, u32 0#32, u32 0#32, u32 0#32, u32 0#32, u32 0#32, u32 0#32, u32 0#32, u32 0#32, u32 0#32, u32 0#32, u32 0#32, u32 0#32, u32 0#32, u32 0#32, u32 0#32, u32 0#32, u32 0#32, u32 0#32, u32 0#32, u32 0#32, u32 0#32, u32 0#32, u32 0#32, u32 0#32, u32 0#32, u32 0#32, u32 0#32, u32 0#32, u32 0#32, u32 0#32, u32 0#32, u32 0#32, u32 0#32, u32 0#32, u32 0#32])⟩]) (
  .seq (
    .region [
      ⟨some 3, none, [], .a 4000 (.alloc [u32 0#32, u32 0#32, u32 0#32, u32 0#32, u32 0#32, u32 0#32, u32 0#32, u32 0#32, u32 0#32, u32 0#32, u32 0#32, u32 0#32, u32 0#32, u32 0#32, u32 0#32, u32 0#32, u32 0#32, u32 0#32, u32 0#32, u32 0#32, u32 0#32, u32 0#32, u32 0#32, u32 0#32, u32 0#32, u32 0#32, u32 0#32, u32 0#32, u32 0#32, u32 0#32, u32 0#32, u32 0#32, u32 0#32, u32 0#32, u32 0#32, u32 0#32, u32 0#32, u32 0#32, u32 0#32, u32 0#32, u32 0#32, u32 0#32, u32 0#32, u32 0#32, u32 0#32, u32 0#32, u32 0#32, u32 0#32, u32 0#32, u32 0#32, u32 0#32, u32 0#32, u32 0#32, u32 0#32, u32 0#32, u32 0#32, u32 0#32, u32 0#32, u32 0#32, u32 0#32, u32 0#32, u32 0#32, u32 0#32, u32 0#32])⟩]) (
  .seq (
    .region [
      ⟨some 12, none, [], .p (.mv (.t 0))⟩,
      ⟨some 13, none, [], .call 8004 4 true (.f 71) [.t 12]⟩,
      ⟨some 11, none, [], .p (.mv (.t 13))⟩,
      ⟨some 14, none, [], .p (.extract (.t 11) 0)⟩,
      ⟨some 15, none, [], .p (.extract (.t 11) 1)⟩,
      ⟨some 4, none, [], .p (.mv (.t 14))⟩,
      ⟨some 5, none, [], .p (.mv (.t 15))⟩]) (
  .seq (
    .region [
      ⟨some 16, none, [], .p (.slcA 64 1 (.t 3) none none)⟩,
      ⟨some 17, none, [], .p (.mv (.t 4))⟩,
      ⟨some 18, none, [], .w (.copy 1 (.t 16) (.t 17))⟩]) (
  .seq (
    .seq (
      .region [
        ⟨some 6, none, [], .p (.mv (.c (.int .i64 16)))⟩]) (
    .block 0 (
      .loop k60_0 a60_0 s60_b0))) (
  .seq (
    .region [
      ⟨some 62, none, [], .r (.loadN 64 (.t 3))⟩,
      ⟨none, none, [], .w (.storeN 64 (.t 2) (.t 62))⟩]) (
  .ret)))))),
  63, [Sum.inr (2, 64, true)]⟩

theorem c60 : cFunc Tryd.prog quiet Tryd.f60 [[2, 3, 6], [2, 3]] = some s60 := by kernel_rfl

-- 61 calls [72]
def s61 : SFunc := ⟨
  .seq (
    .region [
      ⟨some 4, none, [], .p (.mv (.c (u32 0#32)))⟩]) (
  .seq (
    .region [
      ⟨some 5, none, [], .p (.mv (.t 0))⟩,
      ⟨some 6, none, [], .p (.mv (.t 1))⟩,
      ⟨some 7, none, [], .p (.conv .u64 (.t 6))⟩,
      ⟨some 8, none, [], .p (.bin .rem (.t 7) (.c (u64 32#64)))⟩,
      ⟨some 9, none, [], .p (.conv .i64 (.t 8))⟩,
      ⟨some 10, none, [], .p (.bin .sub (.c (.int .i64 32)) (.t 9))⟩,
      ⟨some 11, none, [], .call 4024 4 true (.f 72) [.t 5, .t 10]⟩,
      ⟨some 4, none, [], .p (.mv (.t 11))⟩]) (
  .ret)),
  12, [Sum.inl 4]⟩

theorem c61 : cFunc Tryd.prog quiet Tryd.f61 [] = some s61 := by kernel_rfl

-- 70 calls []
abbrev k70_0 : List Nat := [0, 5, 6]
abbrev a70_0 : List Nat := [0]
abbrev e70_0 (v0 v5 v6 : AV) : Env := [v0, .dead, .dead, .dead, .dead, v5, v6, .dead, .dead, .dead, .dead, .dead, .dead, .dead, .dead, .dead, .dead, .dead, .dead, .dead, .dead, .dead, .dead, .dead, .dead, .dead, .dead]
abbrev x70_0 (v0 : AV) : Env := [v0, .dead, .dead, .dead, .dead, .dead, .dead, .dead, .dead, .dead, .dead, .dead, .dead, .dead, .dead, .dead, .dead, .dead, .dead, .dead, .dead, .dead, .dead, .dead, .dead, .dead, .dead]
def s70_b0 : SCode :=
  .seq (
    .seq (
      .region [
        ⟨some 14, none, [], .p (.mv (.t 6))⟩,
        ⟨some 15, none, [], .p (.mv (.t 5))⟩,
        ⟨some 16, none, [], .p (.bin .lss (.t 14) (.t 15))⟩]) (
    .cond (.t 16) (
      .skip) (
      .exit 0))) (
  .seq (
    .block 1 (
      .seq (
        .region [
          ⟨some 19, none, [], .p (.mv (.t 0))⟩,
          ⟨some 20, none, [], .p (.bin .rem (.t 19) (.c (u32 2#32)))⟩,
          ⟨some 7, none, [], .p (.mv (.t 20))⟩]) (
      .region [
        ⟨some 21, none, [], .p (.mv (.t 0))⟩,
        ⟨some 22, none, [], .p (.bin .quo (.t 21) (.c (u32 2#32)))⟩,
        ⟨some 23, none, [], .p (.mv (.t 7))⟩,
        ⟨some 24, none, [], .p (.bin .mul (.t 23) (.c (u32 2147483648#32)))⟩,
        ⟨some 25, none, [], .p (.bin .add (.t 22) (.t 24))⟩,
        ⟨some 0, none, [], .p (.mv (.t 25))⟩]))) (
  .region [
    ⟨some 17, none, [], .p (.mv (.t 6))⟩,
    ⟨some 18, none, [], .p (.bin .add (.t 17) (.c (.int .i64 1)))⟩,
    ⟨some 6, none, [], .p (.mv (.t 18))⟩]))

def s70 : SFunc := ⟨
  .seq (
    .region [
      ⟨some 4, none, [], .p (.mv (.c (u32 0#32)))⟩]) (
  .seq (
    .region [
      ⟨some 8, none, [], .p (.mv (.t 1))⟩,
      ⟨some 9, none, [], .p (.bin .rem (.t 8) (.c (.int .i64 32)))⟩,
      ⟨some 5, none, [], .p (.mv (.t 9))⟩]) (
  .seq (
    .seq (
      .region [
        ⟨some 10, none, [], .p (.mv (.t 5))⟩,
        ⟨some 11, none, [], .p (.bin .lss (.t 10) (.c (.int .i64 0)))⟩]) (
    .cond (.t 11) (
      .region [
        ⟨some 12, none, [], .p (.mv (.t 5))⟩,
        ⟨some 13, none, [], .p (.bin .add (.t 12) (.c (.int .i64 32)))⟩,
        ⟨some 5, none, [], .p (.mv (.t 13))⟩]) (
      .skip))) (
  .seq (
    .seq (
      .region [
        ⟨some 6, none, [], .p (.mv (.c (.int .i64 0)))⟩]) (
    .block 0 (
      .loop k70_0 a70_0 s70_b0))) (
  .seq (
    .region [
      ⟨some 26, none, [], .p (.mv (.t 0))⟩,
      ⟨some 4, none, [], .p (.mv (.t 26))⟩]) (
  .ret))))),
  27, [Sum.inl 4]⟩

theorem c70 : cFunc Tryd.prog quiet Tryd.f70 [[0, 5, 6], [0]] = some s70 := by kernel_rfl

-- 71 calls [80, 81]
def s71 : SFunc := ⟨
  .seq (
    .region [
      ⟨some 2, none, [], .p (.mv (.c (.slice none 0 0)))⟩,
      ⟨some 3, none, [], .p (.mv (.c (.int .i64 0)))⟩]) (
  .seq (
    .region [
      ⟨some 4, none, [], .p (.mv (.t 0))⟩,
      ⟨some 5, none, [], .call 4004 4 true (.f 80) [.t 4, .f 81]⟩,
      ⟨some 6, none, [], .p (.extract (.t 5) 0)⟩,
      ⟨some 7, none, [], .p (.extract (.t 5) 1)⟩,
      ⟨some 2, none, [], .p (.mv (.t 6))⟩,
      ⟨some 3, none, [], .p (.mv (.t 7))⟩]) (
  .ret)),
  8, [Sum.inl 2, Sum.inl 3]⟩

theorem c71 : cFunc Tryd.prog quiet Tryd.f71 [] = some s71 := by kernel_rfl

-- 72 calls []
def s72 : SFunc := ⟨
  .seq (
    .region [
      ⟨some 4, none, [], .p (.mv (.c (u32 0#32)))⟩]) (
  .seq (
    .region [
      ⟨some 6, none, [], .p (.mv (.t 1))⟩,
      ⟨some 7, none, [], .p (.conv .u64 (.t 6))⟩,
      ⟨some 8, none, [], .p (.bin .rem (.t 7) (.c (u64 32#64)))⟩,
      ⟨some 5, none, [], .p (.mv (.t 8))⟩]) (
  .seq (
    .region [
      ⟨some 9, none, [], .p (.mv (.t 0))⟩,
      ⟨some 10, none, [], .p (.mv (.t 5))⟩,
      ⟨some 11, none, [], .p (.bin .shl (.t 9) (.t 10))⟩,
      ⟨some 12, none, [], .p (.mv (.t 0))⟩,
      ⟨some 13, none, [], .p (.mv (.t 5))⟩,
      ⟨some 14, none, [], .p (.bin .sub (.c (u64 32#64)) (.t 13))⟩,
      ⟨some 15, none, [], .p (.bin .shr (.t 12) (.t 14))⟩,
      ⟨some 16, none, [], .p (.bin .or (.t 11) (.t 15))⟩,
      ⟨some 4, none, [], .p (.mv (.t 16))⟩]) (
  .ret))),
  17, [Sum.inl 4]⟩

theorem c72 : cFunc Tryd.prog quiet Tryd.f72 [] = some s72 := by kernel_rfl

-- 80 calls []
abbrev k80_0 : List Nat := [0, 1, 6, 17, 18]
abbrev a80_0 : List Nat := [6]
abbrev e80_0 (v0 v1 v6 v17 v18 : AV) : Env := [v0, v1, .dead, .dead, .dead, .dead, v6, .dead, .dead, .dead, .dead, .dead, .dead, .dead, .dead, .dead, .dead, v17, v18, .dead, .dead, .dead, .dead, .dead, .dead, .dead, .dead, .dead, .dead, .dead, .dead, .dead, .dead, .dead, .dead, .dead, .dead, .dead, .dead, .dead, .dead, .dead, .dead, .dead, .dead, .dead, .dead, .dead, .dead, .dead, .dead]
abbrev x80_0 (v6 : AV) : Env := [.dead, .dead, .dead, .dead, .dead, .dead, v6, .dead, .dead, .dead, .dead, .dead, .dead, .dead, .dead, .dead, .dead, .dead, .dead, .dead, .dead, .dead, .dead, .dead, .dead, .dead, .dead, .dead, .dead, .dead, .dead, .dead, .dead, .dead, .dead, .dead, .dead, .dead, .dead, .dead, .dead, .dead, .dead, .dead, .dead, .dead, .dead, .dead, .dead, .dead, .dead]
def s80_b0 : SCode :=
  .seq (
    .region [
      ⟨some 19, none, [], .p (.bin .lss (.t 18) (.t 17))⟩]) (
  .seq (
    .cond (.t 19) (
      .skip) (
      .exit 0)) (
  .seq (
    .block 1 (
      .seq (
        .region [
          ⟨some 20, none, [], .p (.mv (.t 18))⟩,
          ⟨some 7, none, [], .p (.mv (.t 20))⟩]) (
      .region [
        ⟨some 21, none, [], .p (.mv (.t 6))⟩,
        ⟨some 22, none, [], .p (.mv (.t 7))⟩,
        ⟨some 23, none, [], .p (.mv (.t 1))⟩,
        ⟨some 24, none, [], .p (.mv (.t 0))⟩,
        ⟨some 25, none, [], .p (.mv (.t 7))⟩,
        ⟨some 26, none, [], .p (.bin .mul (.c (.int .i64 4)) (.t 25))⟩,
        ⟨some 27, none, [], .p (.idxStr (.t 24) (.t 26))⟩,
        ⟨some 28, none, [], .p (.conv .u32 (.t 27))⟩,
        ⟨some 29, none, [], .p (.mv (.t 0))⟩,
        ⟨some 30, none, [], .p (.mv (.t 7))⟩,
        ⟨some 31, none, [], .p (.bin .mul (.c (.int .i64 4)) (.t 30))⟩,
        ⟨some 32, none, [], .p (.bin .add (.t 31) (.c (.int .i64 1)))⟩,
        ⟨some 33, none, [], .p (.idxStr (.t 29) (.t 32))⟩,
        ⟨some 34, none, [], .p (.conv .u32 (.t 33))⟩,
        ⟨some 35, none, [], .p (.mv (.t 0))⟩,
        ⟨some 36, none, [], .p (.mv (.t 7))⟩,
        ⟨some 37, none, [], .p (.bin .mul (.c (.int .i64 4)) (.t 36))⟩,
        ⟨some 38, none, [], .p (.bin .add (.t 37) (.c (.int .i64 2)))⟩,
        ⟨some 39, none, [], .p (.idxStr (.t 35) (.t 38))⟩,
        ⟨some 40, none, [], .p (.conv .u32 (.t 39))⟩,
        ⟨some 41, none, [], .p (.mv (.t 0))⟩,
        ⟨some 42, none, [], .p (.mv (.t 7))⟩,
        ⟨some 43, none, [], .p (.bin .mul (.c (.int .i64 4)) (.t 42))⟩,
        ⟨some 44, none, [], .p (.bin .add (.t 43) (.c (.int .i64 3)))⟩,
        ⟨some 45, none, [], .p (.idxStr (.t 41) (.t 44))⟩,
        ⟨some 46, none, [], .p (.conv .u32 (.t 45))⟩,
        ⟨some 47, none, [], .call 28104 4 true (.t 23) [.t 28, .t 34, .t 40, .t 46]⟩,
        ⟨some 48, none, [], .p (.iaddrS 1 (.t 21) (.t 22))⟩,
        ⟨none, none, [], .w (.store1 (.t 48) (.t 47))⟩]))) (
  .region [
    ⟨some 49, none, [], .p (.bin .add (.t 18) (.c (.int .i64 1)))⟩,
    ⟨some 18, none, [], .p (.mv (.t 49))⟩])))

def s80 : SFunc := ⟨
  .seq (
    .region [
      ⟨some 4, none, [], .p (.mv (.c (.slice none 0 0)))⟩,
      ⟨some 5, none, [], .p (.mv (.c (.int .i64 0)))⟩]) (
  .seq (
    .seq (
      .region [
        ⟨some 8, none, [], .p (.mv (.t 0))⟩,
        ⟨some 9, none, [], .p (.lenV false (.t 8))⟩,
        ⟨some 10, none, [], .p (.bin .rem (.t 9) (.c (.int .i64 4)))⟩,
        ⟨some 11, none, [], .p (.bin .neq (.t 10) (.c (.int .i64 0)))⟩]) (
    .cond (.t 11) (
      .seq (
        .region [
          ⟨some 4, none, [], .p (.mv (.c (.slice none 0 0)))⟩,
          ⟨some 5, none, [], .p (.mv (.c (.int .i64 7)))⟩]) (
      .ret)) (
      .skip))) (
  .seq (
    .region [
      ⟨some 12, none, [], .p (.mv (.t 0))⟩,
      ⟨some 13, none, [], .p (.lenV false (.t 12))⟩,
      ⟨some 14, none, [], .p (.bin .quo (.t 13) (.c (.int .i64 4)))⟩,
      ⟨some 15, none, [], .a 12012 (.mkSlice 1 4 [u32 0#32] (.t 14) (.t 14))⟩,
      ⟨some 6, none, [], .p (.mv (.t 15))⟩]) (
  .seq (
    .seq (
      .region [
        ⟨some 16, none, [], .p (.mv (.t 6))⟩,
        ⟨some 17, none, [], .p (.lenV true (.t 16))⟩,
        ⟨some 18, none, [], .p (.mv (.c (.int .i64 0)))⟩]) (
    .block 0 (
      .loop k80_0 a80_0 s80_b0))) (
  .seq (
    .region [
      ⟨some 50, none, [], .p (.mv (.t 6))⟩,
      ⟨some 4, none, [], .p (.mv (.t 50))⟩,
      ⟨some 5, none, [], .p (.mv (.c (.int .i64 0)))⟩]) (
  .ret))))),
  51, [Sum.inl 4, Sum.inl 5]⟩

theorem c80 : cFunc Tryd.prog quiet Tryd.f80 [[0, 1, 6, 17, 18], [6]] = some s80 := by kernel_rfl

-- 81 calls []
def s81 : SFunc := ⟨
  .seq (
    .region [
      ⟨some 8, none, [], .p (.mv (.c (u32 0#32)))⟩]) (
  .seq (
    .region [
      ⟨some 9, none, [], .p (.mv (.t 0))⟩,
      ⟨some 10, none, [], .p (.bin .shl (.t 9) (.c (u64 24#64)))⟩,
      ⟨some 11, none, [], .p (.mv (.t 1))⟩,
      ⟨some 12, none, [], .p (.bin .shl (.t 11) (.c (u64 16#64)))⟩,
      ⟨some 13, none, [], .p (.bin .or (.t 10) (.t 12))⟩,
      ⟨some 14, none, [], .p (.mv (.t 2))⟩,
      ⟨some 15, none, [], .p (.bin .shl (.t 14) (.c (u64 8#64)))⟩,
      ⟨some 16, none, [], .p (.bin .or (.t 13) (.t 15))⟩,
      ⟨some 17, none, [], .p (.mv (.t 3))⟩,
      ⟨some 18, none, [], .p (.bin .or (.t 16) (.t 17))⟩,
      ⟨some 8, none, [], .p (.mv (.t 18))⟩]) (
  .ret)),
  19, [Sum.inl 8]⟩

theorem c81 : cFunc Tryd.prog quiet Tryd.f81 [] = some s81 := by kernel_rfl

def SP : SProg := tabO [(3, s3), (4, s4), (5, s5), (6, s6), (7, s7), (15, s15), (16, s16), (17, s17), (18, s18), (19, s19), (20, s20), (21, s21), (22, s22), (23, s23), (24, s24), (25, s25), (26, s26), (40, s40), (41, s41), (42, s42), (43, s43), (45, s45), (55, s55), (56, s56), (57, s57), (58, s58), (59, s59), (60, s60), (61, s61), (70, s70), (71, s71), (72, s72), (80, s80), (81, s81)] (repO 44)

theorem comp : Comp Tryd.prog SP := comp_ofO (by kernel_rfl) ⟨⟨quiet, _, _, Tryd.func3, c3⟩, ⟨quiet, _, _, Tryd.func4, c4⟩, ⟨quiet, _, _, Tryd.func5, c5⟩, ⟨quiet, _, _, Tryd.func6, c6⟩, ⟨quiet, _, _, Tryd.func7, c7⟩, ⟨quiet, _, _, Tryd.func15, c15⟩, ⟨quiet, _, _, Tryd.func16, c16⟩, ⟨quiet, _, _, Tryd.func17, c17⟩, ⟨quiet, _, _, Tryd.func18, c18⟩, ⟨quiet, _, _, Tryd.func19, c19⟩, ⟨quiet, _, _, Tryd.func20, c20⟩, ⟨quiet, _, _, Tryd.func21, c21⟩, ⟨quiet, _, _, Tryd.func22, c22⟩, ⟨quiet, _, _, Tryd.func23, c23⟩, ⟨quiet, _, _, Tryd.func24, c24⟩, ⟨quiet, _, _, Tryd.func25, c25⟩, ⟨quiet, _, _, Tryd.func26, c26⟩, ⟨quiet, _, _, Tryd.func40, c40⟩, ⟨quiet, _, _, Tryd.func41, c41⟩, ⟨quiet, _, _, Tryd.func42, c42⟩, ⟨quiet, _, _, Tryd.func43, c43⟩, ⟨quiet, _, _, Tryd.func45, c45⟩, ⟨quiet, _, _, Tryd.func55, c55⟩, ⟨quiet, _, _, Tryd.func56, c56⟩, ⟨quiet, _, _, Tryd.func57, c57⟩, ⟨quiet, _, _, Tryd.func58, c58⟩, ⟨quiet, _, _, Tryd.func59, c59⟩, ⟨quiet, _, _, Tryd.func60, c60⟩, ⟨quiet, _, _, Tryd.func61, c61⟩, ⟨quiet, _, _, Tryd.func70, c70⟩, ⟨quiet, _, _, Tryd.func71, c71⟩, ⟨quiet, _, _, Tryd.func72, c72⟩, ⟨quiet, _, _, Tryd.func80, c80⟩, ⟨quiet, _, _, Tryd.func81, c81⟩, trivial⟩ (repO_ok Tryd.rep)


end Go.Proofs.YtjfdcfolinphnaaDoor
