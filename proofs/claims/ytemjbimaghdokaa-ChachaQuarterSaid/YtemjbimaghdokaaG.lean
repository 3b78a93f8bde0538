import Derived.Test.YtemjbimaghdokaaProg
import Derived.Test.YtemjbimaghdokaaDetQ
import Derived.KernelRfl
set_option maxRecDepth 100000
namespace Go.Proofs.Ytemjbimaghdokaa
open Go.Det

def quiet : Nat → Bool := (fun n => !([28] : List Nat).contains n)

-- 3 calls [10, 11, 12]
def s3 : SFunc := ⟨
  .seq (
    .region [
      ⟨some 1, none, [], .a 0 (.box (.t 0))⟩,
      ⟨some 2, none, [], .p (.mv (.c (.bool false)))⟩]) (
  .seq (
    .region [
      ⟨some 8, none, [], .p (.iaddrA 4 1 (.t 1) (.c (.int .i64 0)))⟩,
      ⟨some 9, none, [], .r (.load1 (.t 8))⟩,
      ⟨some 10, none, [], .p (.iaddrA 4 1 (.t 1) (.c (.int .i64 1)))⟩,
      ⟨some 11, none, [], .r (.load1 (.t 10))⟩,
      ⟨some 12, none, [], .p (.iaddrA 4 1 (.t 1) (.c (.int .i64 2)))⟩,
      ⟨some 13, none, [], .r (.load1 (.t 12))⟩,
      ⟨some 14, none, [], .p (.iaddrA 4 1 (.t 1) (.c (.int .i64 3)))⟩,
      ⟨some 15, none, [], .r (.load1 (.t 14))⟩,
      ⟨some 16, none, [], .call 4032 4 true (.f 10) [.t 9, .t 11, .t 13, .t 15]⟩,
      ⟨some 7, none, [], .p (.mv (.t 16))⟩,
      ⟨some 17, none, [], .p (.extract (.t 7) 0)⟩,
      ⟨some 18, none, [], .p (.extract (.t 7) 1)⟩,
      ⟨some 19, none, [], .p (.extract (.t 7) 2)⟩,
      ⟨some 20, none, [], .p (.extract (.t 7) 3)⟩,
      ⟨some 3, none, [], .p (.mv (.t 17))⟩,
      ⟨some 4, none, [], .p (.mv (.t 18))⟩,
      ⟨some 5, none, [], .p (.mv (.t 19))⟩,
      ⟨some 6, none, [], .p (.mv (.t 20))⟩]) (
  .seq (
    .region [
      ⟨some 21, none, [], .call 8000 4 true (.f 11) []⟩,
      ⟨some 22, none, [], .p (.mv (.t 21))⟩,
      ⟨some 23, some (22, true), [], .p (.mv (.t 3))⟩,
      ⟨some 24, some (22, true), [], .p (.mv (.t 4))⟩,
      ⟨some 25, some (22, true), [], .p (.mv (.t 5))⟩,
      ⟨some 26, some (22, true), [], .p (.mv (.t 6))⟩,
      ⟨some 27, some (22, true), [], .p (.build [u32 0#32, u32 0#32, u32 0#32, u32 0#32] [(0, 1, .t 23), (1, 1, .t 24), (2, 1, .t 25), (3, 1, .t 26)])⟩,
      ⟨some 28, some (22, true), [], .p (.iaddrA 4 1 (.t 1) (.c (.int .i64 0)))⟩,
      ⟨some 29, some (22, true), [], .r (.load1 (.t 28))⟩,
      ⟨some 30, some (22, true), [], .p (.iaddrA 4 1 (.t 1) (.c (.int .i64 1)))⟩,
      ⟨some 31, some (22, true), [], .r (.load1 (.t 30))⟩,
      ⟨some 32, some (22, true), [], .p (.iaddrA 4 1 (.t 1) (.c (.int .i64 2)))⟩,
      ⟨some 33, some (22, true), [], .r (.load1 (.t 32))⟩,
      ⟨some 34, some (22, true), [], .p (.iaddrA 4 1 (.t 1) (.c (.int .i64 3)))⟩,
      ⟨some 35, some (22, true), [], .r (.load1 (.t 34))⟩,
      ⟨some 36, some (22, true), [], .call 8060 4 true (.f 12) [.t 29, .t 31, .t 33, .t 35]⟩,
      ⟨some 37, some (22, true), [], .p (.eqa [0, 0, 0, 0] false (.t 27) (.t 36))⟩,
      ⟨some 38, none, [], .p (.pick (.t 22) (.t 37) (.c (.bool false)))⟩,
      ⟨some 2, none, [], .p (.mv (.t 38))⟩]) (
  .ret))),
  39, [Sum.inl 2]⟩

theorem c3 : cFunc Try.prog quiet Try.f3 [] = some s3 := by kernel_rfl

-- 4 calls [11, 13, 14, 15]
def s4 : SFunc := ⟨
  .seq (
    .region [
      ⟨some 3, none, [], .a 0 (.box (.t 0))⟩,
      ⟨some 6, none, [], .p (.mv (.c (.bool false)))⟩]) (
  .seq (
    .region [
      ⟨some 18, none, [], .r (.loadN 45 (.t 3))⟩,
      ⟨some 19, none, [], .call 4004 4 true (.f 13) [.t 18]⟩,
      ⟨some 17, none, [], .p (.mv (.t 19))⟩,
      ⟨some 20, none, [], .p (.extract (.t 17) 0)⟩,
      ⟨some 21, none, [], .p (.extract (.t 17) 1)⟩,
      ⟨some 7, none, [], .p (.mv (.t 20))⟩,
      ⟨some 8, none, [], .p (.mv (.t 21))⟩]) (
  .seq (
    .region [
      ⟨some 23, none, [], .p (.mv (.t 7))⟩,
      ⟨some 24, none, [], .p (.mv (.t 8))⟩,
      ⟨some 25, none, [], .p (.mv (.t 1))⟩,
      ⟨some 26, none, [], .call 8012 4 true (.f 14) [.t 23, .t 24, .t 25]⟩,
      ⟨some 22, none, [], .p (.mv (.t 26))⟩,
      ⟨some 27, none, [], .p (.extract (.t 22) 0)⟩,
      ⟨some 28, none, [], .p (.extract (.t 22) 1)⟩,
      ⟨some 9, none, [], .p (.mv (.t 27))⟩,
      ⟨some 10, none, [], .p (.mv (.t 28))⟩]) (
  .seq (
    .region [
      ⟨some 30, none, [], .p (.mv (.t 7))⟩,
      ⟨some 31, none, [], .p (.mv (.t 8))⟩,
      ⟨some 32, none, [], .p (.mv (.t 1))⟩,
      ⟨some 33, none, [], .call 12012 4 true (.f 15) [.t 30, .t 31, .t 32]⟩,
      ⟨some 29, none, [], .p (.mv (.t 33))⟩,
      ⟨some 34, none, [], .p (.extract (.t 29) 0)⟩,
      ⟨some 35, none, [], .p (.extract (.t 29) 1)⟩,
      ⟨some 11, none, [], .p (.mv (.t 34))⟩,
      ⟨some 12, none, [], .p (.mv (.t 35))⟩]) (
  .seq (
    .region [
      ⟨some 37, none, [], .p (.mv (.t 7))⟩,
      ⟨some 38, none, [], .p (.mv (.t 2))⟩,
      ⟨some 39, none, [], .p (.mv (.t 1))⟩,
      ⟨some 40, none, [], .call 16012 4 true (.f 14) [.t 37, .t 38, .t 39]⟩,
      ⟨some 36, none, [], .p (.mv (.t 40))⟩,
      ⟨some 41, none, [], .p (.extract (.t 36) 0)⟩,
      ⟨some 42, none, [], .p (.extract (.t 36) 1)⟩,
      ⟨some 13, none, [], .p (.mv (.t 41))⟩,
      ⟨some 14, none, [], .p (.mv (.t 42))⟩]) (
  .seq (
    .region [
      ⟨some 44, none, [], .p (.mv (.t 7))⟩,
      ⟨some 45, none, [], .p (.mv (.t 2))⟩,
      ⟨some 46, none, [], .p (.mv (.t 1))⟩,
      ⟨some 47, none, [], .call 20012 4 true (.f 15) [.t 44, .t 45, .t 46]⟩,
      ⟨some 43, none, [], .p (.mv (.t 47))⟩,
      ⟨some 48, none, [], .p (.extract (.t 43) 0)⟩,
      ⟨some 49, none, [], .p (.extract (.t 43) 1)⟩,
      ⟨some 15, none, [], .p (.mv (.t 48))⟩,
      ⟨some 16, none, [], .p (.mv (.t 49))⟩]) (
  .seq (
    .region [
      ⟨some 50, none, [], .call 24000 4 true (.f 11) []⟩,
      ⟨some 51, none, [], .p (.mv (.t 50))⟩,
      ⟨some 52, some (51, true), [], .p (.mv (.t 9))⟩,
      ⟨some 53, some (51, true), [], .p (.mv (.t 11))⟩,
      ⟨some 54, some (51, true), [], .p (.bin .eql (.t 52) (.t 53))⟩,
      ⟨some 55, none, [], .p (.pick (.t 51) (.t 54) (.c (.bool false)))⟩,
      ⟨some 56, none, [], .p (.mv (.t 55))⟩,
      ⟨some 57, some (56, true), [], .p (.mv (.t 10))⟩,
      ⟨some 58, some (56, true), [], .p (.mv (.t 12))⟩,
      ⟨some 59, some (56, true), [], .p (.bin .eql (.t 57) (.t 58))⟩,
      ⟨some 60, none, [], .p (.pick (.t 56) (.t 59) (.c (.bool false)))⟩,
      ⟨some 61, none, [], .p (.mv (.t 60))⟩,
      ⟨some 62, some (61, true), [], .p (.mv (.t 13))⟩,
      ⟨some 63, some (61, true), [], .p (.mv (.t 15))⟩,
      ⟨some 64, some (61, true), [], .p (.bin .eql (.t 62) (.t 63))⟩,
      ⟨some 65, none, [], .p (.pick (.t 61) (.t 64) (.c (.bool false)))⟩,
      ⟨some 66, none, [], .p (.mv (.t 65))⟩,
      ⟨some 67, some (66, true), [], .p (.mv (.t 14))⟩,
      ⟨some 68, some (66, true), [], .p (.mv (.t 16))⟩,
      ⟨some 69, some (66, true), [], .p (.bin .eql (.t 67) (.t 68))⟩,
      ⟨some 70, none, [], .p (.pick (.t 66) (.t 69) (.c (.bool false)))⟩,
      ⟨some 6, none, [], .p (.mv (.t 70))⟩]) (
  .ret))))))),
  71, [Sum.inl 6]⟩

theorem c4 : cFunc Try.prog quiet Try.f4 [] = some s4 := by kernel_rfl

-- 5 calls [11, 13, 16, 17]
def s5 : SFunc := ⟨
  .seq (
    .region [
      ⟨some 3, none, [], .a 0 (.box (.t 0))⟩,
      ⟨some 6, none, [], .p (.mv (.c (.bool false)))⟩]) (
  .seq (
    .region [
      ⟨some 13, none, [], .p (.mv (.t 2))⟩,
      ⟨some 14, none, [], .p (.mv (.t 2))⟩,
      ⟨some 15, none, [], .p (.lenV false (.t 14))⟩,
      ⟨some 16, none, [], .p (.minmax false (.t 15) (.c (.int .i64 300)))⟩,
      ⟨some 17, none, [], .p (.slcStr (.t 13) none (some (.t 16)))⟩,
      ⟨some 2, none, [], .p (.mv (.t 17))⟩]) (
  .seq (
    .region [
      ⟨some 19, none, [], .r (.loadN 45 (.t 3))⟩,
      ⟨some 20, none, [], .call 8004 4 true (.f 13) [.t 19]⟩,
      ⟨some 18, none, [], .p (.mv (.t 20))⟩,
      ⟨some 21, none, [], .p (.extract (.t 18) 0)⟩,
      ⟨some 22, none, [], .p (.extract (.t 18) 1)⟩,
      ⟨some 7, none, [], .p (.mv (.t 21))⟩,
      ⟨some 8, none, [], .p (.mv (.t 22))⟩]) (
  .seq (
    .region [
      ⟨some 24, none, [], .p (.mv (.t 7))⟩,
      ⟨some 25, none, [], .p (.mv (.t 8))⟩,
      ⟨some 26, none, [], .p (.mv (.t 1))⟩,
      ⟨some 27, none, [], .p (.mv (.t 2))⟩,
      ⟨some 28, none, [], .call 12016 4 true (.f 16) [.t 24, .t 25, .t 26, .t 27]⟩,
      ⟨some 23, none, [], .p (.mv (.t 28))⟩,
      ⟨some 29, none, [], .p (.extract (.t 23) 0)⟩,
      ⟨some 30, none, [], .p (.extract (.t 23) 1)⟩,
      ⟨some 9, none, [], .p (.mv (.t 29))⟩,
      ⟨some 10, none, [], .p (.mv (.t 30))⟩]) (
  .seq (
    .region [
      ⟨some 32, none, [], .p (.mv (.t 7))⟩,
      ⟨some 33, none, [], .p (.mv (.t 8))⟩,
      ⟨some 34, none, [], .p (.mv (.t 1))⟩,
      ⟨some 35, none, [], .p (.mv (.t 2))⟩,
      ⟨some 36, none, [], .call 16016 4 true (.f 17) [.t 32, .t 33, .t 34, .t 35]⟩,
      ⟨some 31, none, [], .p (.mv (.t 36))⟩,
      ⟨some 37, none, [], .p (.extract (.t 31) 0)⟩,
      ⟨some 38, none, [], .p (.extract (.t 31) 1)⟩,
      ⟨some 11, none, [], .p (.mv (.t 37))⟩,
      ⟨some 12, none, [], .p (.mv (.t 38))⟩]) (
  .seq (
    .region [
      ⟨some 39, none, [], .call 20000 4 true (.f 11) []⟩,
      ⟨some 40, none, [], .p (.mv (.t 39))⟩,
      ⟨some 41, some (40, true), [], .p (.mv (.t 9))⟩,
      ⟨some 42, some (40, true), [], .p (.mv (.t 11))⟩,
      ⟨some 43, some (40, true), [], .p (.bin .eql (.t 41) (.t 42))⟩,
      ⟨some 44, none, [], .p (.pick (.t 40) (.t 43) (.c (.bool false)))⟩,
      ⟨some 45, none, [], .p (.mv (.t 44))⟩,
      ⟨some 46, some (45, true), [], .p (.mv (.t 10))⟩,
      ⟨some 47, some (45, true), [], .p (.mv (.t 12))⟩,
      ⟨some 48, some (45, true), [], .p (.bin .eql (.t 46) (.t 47))⟩,
      ⟨some 49, none, [], .p (.pick (.t 45) (.t 48) (.c (.bool false)))⟩,
      ⟨some 6, none, [], .p (.mv (.t 49))⟩]) (
  .ret)))))),
  50, [Sum.inl 6]⟩

theorem c5 : cFunc Try.prog quiet Try.f5 [] = some s5 := by kernel_rfl

-- 6 calls [11, 13, 16]
def s6 : SFunc := ⟨
  .seq (
    .region [
      ⟨some 3, none, [], .a 0 (.box (.t 0))⟩,
      ⟨some 6, none, [], .p (.mv (.c (.bool false)))⟩]) (
  .seq (
    .region [
      ⟨some 13, none, [], .p (.mv (.t 2))⟩,
      ⟨some 14, none, [], .p (.mv (.t 2))⟩,
      ⟨some 15, none, [], .p (.lenV false (.t 14))⟩,
      ⟨some 16, none, [], .p (.minmax false (.t 15) (.c (.int .i64 2000)))⟩,
      ⟨some 17, none, [], .p (.slcStr (.t 13) none (some (.t 16)))⟩,
      ⟨some 2, none, [], .p (.mv (.t 17))⟩]) (
  .seq (
    .region [
      ⟨some 18, none, [], .p (.faddr 44 (.t 3))⟩,
      ⟨none, none, [], .w (.store1 (.t 18) (.c (.int .i64 0)))⟩]) (
  .seq (
    .region [
      ⟨some 20, none, [], .r (.loadN 45 (.t 3))⟩,
      ⟨some 21, none, [], .call 12004 4 true (.f 13) [.t 20]⟩,
      ⟨some 19, none, [], .p (.mv (.t 21))⟩,
      ⟨some 22, none, [], .p (.extract (.t 19) 0)⟩,
      ⟨some 23, none, [], .p (.extract (.t 19) 1)⟩,
      ⟨some 7, none, [], .p (.mv (.t 22))⟩,
      ⟨some 8, none, [], .p (.mv (.t 23))⟩]) (
  .seq (
    .region [
      ⟨some 25, none, [], .p (.mv (.t 7))⟩,
      ⟨some 26, none, [], .p (.mv (.t 8))⟩,
      ⟨some 27, none, [], .p (.mv (.t 1))⟩,
      ⟨some 28, none, [], .p (.mv (.t 2))⟩,
      ⟨some 29, none, [], .call 16016 4 true (.f 16) [.t 25, .t 26, .t 27, .t 28]⟩,
      ⟨some 24, none, [], .p (.mv (.t 29))⟩,
      ⟨some 30, none, [], .p (.extract (.t 24) 0)⟩,
      ⟨some 31, none, [], .p (.extract (.t 24) 1)⟩,
      ⟨some 9, none, [], .p (.mv (.t 30))⟩,
      ⟨some 10, none, [], .p (.mv (.t 31))⟩]) (
  .seq (
    .region [
      ⟨some 33, none, [], .p (.mv (.t 7))⟩,
      ⟨some 34, none, [], .p (.mv (.t 8))⟩,
      ⟨some 35, none, [], .p (.mv (.t 1))⟩,
      ⟨some 36, none, [], .p (.mv (.t 9))⟩,
      ⟨some 37, none, [], .call 20016 4 true (.f 16) [.t 33, .t 34, .t 35, .t 36]⟩,
      ⟨some 32, none, [], .p (.mv (.t 37))⟩,
      ⟨some 38, none, [], .p (.extract (.t 32) 0)⟩,
      ⟨some 39, none, [], .p (.extract (.t 32) 1)⟩,
      ⟨some 11, none, [], .p (.mv (.t 38))⟩,
      ⟨some 12, none, [], .p (.mv (.t 39))⟩]) (
  .seq (
    .region [
      ⟨some 40, none, [], .call 24000 4 true (.f 11) []⟩,
      ⟨some 41, none, [], .p (.mv (.t 40))⟩,
      ⟨some 42, some (41, true), [], .p (.mv (.t 10))⟩,
      ⟨some 43, some (41, true), [], .p (.bin .eql (.t 42) (.c (.int .i64 0)))⟩,
      ⟨some 44, none, [], .p (.pick (.t 41) (.t 43) (.c (.bool false)))⟩,
      ⟨some 45, none, [], .p (.mv (.t 44))⟩,
      ⟨some 46, some (45, true), [], .p (.mv (.t 12))⟩,
      ⟨some 47, some (45, true), [], .p (.bin .eql (.t 46) (.c (.int .i64 0)))⟩,
      ⟨some 48, none, [], .p (.pick (.t 45) (.t 47) (.c (.bool false)))⟩,
      ⟨some 49, none, [], .p (.mv (.t 48))⟩,
      ⟨some 50, some (49, true), [], .p (.mv (.t 9))⟩,
      ⟨some 51, some (49, true), [], .p (.lenV false (.t 50))⟩,
      ⟨some 52, some (49, true), [], .p (.mv (.t 2))⟩,
      ⟨some 53, some (49, true), [], .p (.lenV false (.t 52))⟩,
      ⟨some 54, some (49, true), [], .p (.bin .eql (.t 51) (.t 53))⟩,
      ⟨some 55, none, [], .p (.pick (.t 49) (.t 54) (.c (.bool false)))⟩,
      ⟨some 56, none, [], .p (.mv (.t 55))⟩,
      ⟨some 57, some (56, true), [], .p (.mv (.t 11))⟩,
      ⟨some 58, some (56, true), [], .p (.mv (.t 2))⟩,
      ⟨some 59, some (56, true), [], .p (.bin .eql (.t 57) (.t 58))⟩,
      ⟨some 60, none, [], .p (.pick (.t 56) (.t 59) (.c (.bool false)))⟩,
      ⟨some 6, none, [], .p (.mv (.t 60))⟩]) (
  .ret))))))),
  61, [Sum.inl 6]⟩

theorem c6 : cFunc Try.prog quiet Try.f6 [] = some s6 := by kernel_rfl

-- 7 calls [11, 13, 16]
abbrev k7_0 : List Nat := [1, 2, 7, 8, 9, 10, 11, 12]
abbrev a7_0 : List Nat := [6, 9, 10, 11]
abbrev e7_0 (v1 v2 v7 v8 v9 v10 v11 v12 : AV) : Env := [.dead, v1, v2, .dead, .dead, .dead, .dead, v7, v8, v9, v10, v11, v12, .dead, .dead, .dead, .dead, .dead, .dead, .dead, .dead, .dead, .dead, .dead, .dead, .dead, .dead, .dead, .dead, .dead, .dead, .dead, .dead, .dead, .dead, .dead, .dead, .dead, .dead, .dead, .dead, .dead, .dead, .dead, .dead, .dead, .dead, .dead, .dead, .dead, .dead, .dead, .dead, .dead, .dead, .dead, .dead, .dead, .dead, .dead, .dead, .dead, .dead, .dead, .dead, .dead, .dead, .dead, .dead, .dead, .dead, .dead, .dead, .dead]
abbrev x7_0 (v6 v9 v10 v11 : AV) : Env := [.dead, .dead, .dead, .dead, .dead, .dead, v6, .dead, .dead, v9, v10, v11, .dead, .dead, .dead, .dead, .dead, .dead, .dead, .dead, .dead, .dead, .dead, .dead, .dead, .dead, .dead, .dead, .dead, .dead, .dead, .dead, .dead, .dead, .dead, .dead, .dead, .dead, .dead, .dead, .dead, .dead, .dead, .dead, .dead, .dead, .dead, .dead, .dead, .dead, .dead, .dead, .dead, .dead, .dead, .dead, .dead, .dead, .dead, .dead, .dead, .dead, .dead, .dead, .dead, .dead, .dead, .dead, .dead, .dead, .dead, .dead, .dead, .dead]
def s7_b0 : SCode :=
  .seq (
    .seq (
      .region [
        ⟨some 34, none, [], .p (.mv (.t 12))⟩,
        ⟨some 35, none, [], .p (.mv (.t 2))⟩,
        ⟨some 36, none, [], .p (.lenV false (.t 35))⟩,
        ⟨some 37, none, [], .p (.bin .lss (.t 34) (.t 36))⟩]) (
    .cond (.t 37) (
      .skip) (
      .exit 0))) (
  .seq (
    .block 1 (
      .seq (
        .region [
          ⟨some 41, none, [], .p (.mv (.t 7))⟩,
          ⟨some 42, none, [], .p (.mv (.t 8))⟩,
          ⟨some 43, none, [], .p (.mv (.t 1))⟩,
          ⟨some 44, none, [], .p (.mv (.t 12))⟩,
          ⟨some 45, none, [], .p (.bin .quo (.t 44) (.c (.int .i64 64)))⟩,
          ⟨some 46, none, [], .p (.conv .u32 (.t 45))⟩,
          ⟨some 47, none, [], .p (.bin .add (.t 43) (.t 46))⟩,
          ⟨some 48, none, [], .p (.mv (.t 2))⟩,
          ⟨some 49, none, [], .p (.mv (.t 12))⟩,
          ⟨some 50, none, [], .p (.mv (.t 2))⟩,
          ⟨some 51, none, [], .p (.lenV false (.t 50))⟩,
          ⟨some 52, none, [], .p (.mv (.t 12))⟩,
          ⟨some 53, none, [], .p (.bin .add (.t 52) (.c (.int .i64 64)))⟩,
          ⟨some 54, none, [], .p (.minmax false (.t 51) (.t 53))⟩,
          ⟨some 55, none, [], .p (.slcStr (.t 48) (some (.t 49)) (some (.t 54)))⟩,
          ⟨some 56, none, [], .call 36060 4 true (.f 16) [.t 41, .t 42, .t 47, .t 55]⟩,
          ⟨some 40, none, [], .p (.mv (.t 56))⟩,
          ⟨some 57, none, [], .p (.extract (.t 40) 0)⟩,
          ⟨some 58, none, [], .p (.extract (.t 40) 1)⟩,
          ⟨some 13, none, [], .p (.mv (.t 57))⟩,
          ⟨some 14, none, [], .p (.mv (.t 58))⟩]) (
      .seq (
        .seq (
          .region [
            ⟨some 59, none, [], .p (.mv (.t 14))⟩,
            ⟨some 60, none, [], .p (.bin .neq (.t 59) (.c (.int .i64 0)))⟩]) (
        .cond (.t 60) (
          .seq (
            .region [
              ⟨some 6, none, [], .p (.mv (.c (.bool false)))⟩]) (
          .ret)) (
          .skip))) (
      .region [
        ⟨some 61, none, [], .p (.mv (.t 11))⟩,
        ⟨some 62, none, [], .p (.mv (.t 13))⟩,
        ⟨some 63, none, [], .p (.bin .add (.t 61) (.t 62))⟩,
        ⟨some 11, none, [], .p (.mv (.t 63))⟩])))) (
  .region [
    ⟨some 38, none, [], .p (.mv (.t 12))⟩,
    ⟨some 39, none, [], .p (.bin .add (.t 38) (.c (.int .i64 64)))⟩,
    ⟨some 12, none, [], .p (.mv (.t 39))⟩]))

def s7 : SFunc := ⟨
  .seq (
    .region [
      ⟨some 3, none, [], .a 0 (.box (.t 0))⟩,
      ⟨some 6, none, [], .p (.mv (.c (.bool false)))⟩]) (
  .seq (
    .region [
      ⟨some 15, none, [], .p (.mv (.t 2))⟩,
      ⟨some 16, none, [], .p (.mv (.t 2))⟩,
      ⟨some 17, none, [], .p (.lenV false (.t 16))⟩,
      ⟨some 18, none, [], .p (.minmax false (.t 17) (.c (.int .i64 600)))⟩,
      ⟨some 19, none, [], .p (.slcStr (.t 15) none (some (.t 18)))⟩,
      ⟨some 2, none, [], .p (.mv (.t 19))⟩]) (
  .seq (
    .region [
      ⟨some 20, none, [], .p (.faddr 44 (.t 3))⟩,
      ⟨none, none, [], .w (.store1 (.t 20) (.c (.int .i64 0)))⟩]) (
  .seq (
    .region [
      ⟨some 22, none, [], .r (.loadN 45 (.t 3))⟩,
      ⟨some 23, none, [], .call 12004 4 true (.f 13) [.t 22]⟩,
      ⟨some 21, none, [], .p (.mv (.t 23))⟩,
      ⟨some 24, none, [], .p (.extract (.t 21) 0)⟩,
      ⟨some 25, none, [], .p (.extract (.t 21) 1)⟩,
      ⟨some 7, none, [], .p (.mv (.t 24))⟩,
      ⟨some 8, none, [], .p (.mv (.t 25))⟩]) (
  .seq (
    .region [
      ⟨some 27, none, [], .p (.mv (.t 7))⟩,
      ⟨some 28, none, [], .p (.mv (.t 8))⟩,
      ⟨some 29, none, [], .p (.mv (.t 1))⟩,
      ⟨some 30, none, [], .p (.mv (.t 2))⟩,
      ⟨some 31, none, [], .call 16016 4 true (.f 16) [.t 27, .t 28, .t 29, .t 30]⟩,
      ⟨some 26, none, [], .p (.mv (.t 31))⟩,
      ⟨some 32, none, [], .p (.extract (.t 26) 0)⟩,
      ⟨some 33, none, [], .p (.extract (.t 26) 1)⟩,
      ⟨some 9, none, [], .p (.mv (.t 32))⟩,
      ⟨some 10, none, [], .p (.mv (.t 33))⟩]) (
  .seq (
    .region [
      ⟨some 11, none, [], .p (.mv (.c (.str [])))⟩]) (
  .seq (
    .seq (
      .region [
        ⟨some 12, none, [], .p (.mv (.c (.int .i64 0)))⟩]) (
    .block 0 (
      .loop k7_0 a7_0 s7_b0))) (
  .seq (
    .region [
      ⟨some 64, none, [], .call 52000 4 true (.f 11) []⟩,
      ⟨some 65, none, [], .p (.mv (.t 64))⟩,
      ⟨some 66, some (65, true), [], .p (.mv (.t 10))⟩,
      ⟨some 67, some (65, true), [], .p (.bin .eql (.t 66) (.c (.int .i64 0)))⟩,
      ⟨some 68, none, [], .p (.pick (.t 65) (.t 67) (.c (.bool false)))⟩,
      ⟨some 69, none, [], .p (.mv (.t 68))⟩,
      ⟨some 70, some (69, true), [], .p (.mv (.t 9))⟩,
      ⟨some 71, some (69, true), [], .p (.mv (.t 11))⟩,
      ⟨some 72, some (69, true), [], .p (.bin .eql (.t 70) (.t 71))⟩,
      ⟨some 73, none, [], .p (.pick (.t 69) (.t 72) (.c (.bool false)))⟩,
      ⟨some 6, none, [], .p (.mv (.t 73))⟩]) (
  .ret)))))))),
  74, [Sum.inl 6]⟩

theorem c7 : cFunc Try.prog quiet Try.f7 [[1, 2, 7, 8, 9, 10, 11, 12], [6, 9, 10, 11]] = some s7 := by kernel_rfl

-- 8 calls [11, 13, 16, 18]
def s8 : SFunc := ⟨
  .seq (
    .region [
      ⟨some 3, none, [], .a 0 (.box (.t 0))⟩,
      ⟨some 6, none, [], .p (.mv (.c (.bool false)))⟩]) (
  .seq (
    .region [
      ⟨some 14, none, [], .p (.mv (.t 1))⟩,
      ⟨some 15, none, [], .p (.lenV false (.t 14))⟩,
      ⟨some 16, none, [], .p (.mv (.t 2))⟩,
      ⟨some 17, none, [], .p (.lenV false (.t 16))⟩,
      ⟨some 18, none, [], .p (.minmax3 false (.t 15) (.t 17) (.c (.int .i64 600)))⟩,
      ⟨some 7, none, [], .p (.mv (.t 18))⟩]) (
  .seq (
    .region [
      ⟨some 19, none, [], .p (.faddr 44 (.t 3))⟩,
      ⟨none, none, [], .w (.store1 (.t 19) (.c (.int .i64 0)))⟩]) (
  .seq (
    .region [
      ⟨some 21, none, [], .r (.loadN 45 (.t 3))⟩,
      ⟨some 22, none, [], .call 12004 4 true (.f 13) [.t 21]⟩,
      ⟨some 20, none, [], .p (.mv (.t 22))⟩,
      ⟨some 23, none, [], .p (.extract (.t 20) 0)⟩,
      ⟨some 24, none, [], .p (.extract (.t 20) 1)⟩,
      ⟨some 8, none, [], .p (.mv (.t 23))⟩,
      ⟨some 9, none, [], .p (.mv (.t 24))⟩]) (
  .seq (
    .region [
      ⟨some 26, none, [], .p (.mv (.t 8))⟩,
      ⟨some 27, none, [], .p (.mv (.t 9))⟩,
      ⟨some 28, none, [], .p (.mv (.t 1))⟩,
      ⟨some 29, none, [], .p (.mv (.t 7))⟩,
      ⟨some 30, none, [], .p (.slcStr (.t 28) none (some (.t 29)))⟩,
      ⟨some 31, none, [], .call 16020 4 true (.f 16) [.t 26, .t 27, .c (u32 1#32), .t 30]⟩,
      ⟨some 25, none, [], .p (.mv (.t 31))⟩,
      ⟨some 32, none, [], .p (.extract (.t 25) 0)⟩,
      ⟨some 33, none, [], .p (.extract (.t 25) 1)⟩,
      ⟨some 10, none, [], .p (.mv (.t 32))⟩,
      ⟨some 11, none, [], .p (.mv (.t 33))⟩]) (
  .seq (
    .region [
      ⟨some 35, none, [], .p (.mv (.t 8))⟩,
      ⟨some 36, none, [], .p (.mv (.t 9))⟩,
      ⟨some 37, none, [], .p (.mv (.t 2))⟩,
      ⟨some 38, none, [], .p (.mv (.t 7))⟩,
      ⟨some 39, none, [], .p (.slcStr (.t 37) none (some (.t 38)))⟩,
      ⟨some 40, none, [], .call 20020 4 true (.f 16) [.t 35, .t 36, .c (u32 1#32), .t 39]⟩,
      ⟨some 34, none, [], .p (.mv (.t 40))⟩,
      ⟨some 41, none, [], .p (.extract (.t 34) 0)⟩,
      ⟨some 42, none, [], .p (.extract (.t 34) 1)⟩,
      ⟨some 12, none, [], .p (.mv (.t 41))⟩,
      ⟨some 13, none, [], .p (.mv (.t 42))⟩]) (
  .seq (
    .region [
      ⟨some 43, none, [], .call 24000 4 true (.f 11) []⟩,
      ⟨some 44, none, [], .p (.mv (.t 43))⟩,
      ⟨some 45, some (44, true), [], .p (.mv (.t 10))⟩,
      ⟨some 46, some (44, true), [], .p (.mv (.t 12))⟩,
      ⟨some 47, some (44, true), [], .call 24016 4 true (.f 18) [.t 45, .t 46]⟩,
      ⟨some 48, some (44, true), [], .p (.mv (.t 1))⟩,
      ⟨some 49, some (44, true), [], .p (.mv (.t 7))⟩,
      ⟨some 50, some (44, true), [], .p (.slcStr (.t 48) none (some (.t 49)))⟩,
      ⟨some 51, some (44, true), [], .p (.mv (.t 2))⟩,
      ⟨some 52, some (44, true), [], .p (.mv (.t 7))⟩,
      ⟨some 53, some (44, true), [], .p (.slcStr (.t 51) none (some (.t 52)))⟩,
      ⟨some 54, some (44, true), [], .call 24044 4 true (.f 18) [.t 50, .t 53]⟩,
      ⟨some 55, some (44, true), [], .p (.bin .eql (.t 47) (.t 54))⟩,
      ⟨some 56, none, [], .p (.pick (.t 44) (.t 55) (.c (.bool false)))⟩,
      ⟨some 6, none, [], .p (.mv (.t 56))⟩]) (
  .ret))))))),
  57, [Sum.inl 6]⟩

theorem c8 : cFunc Try.prog quiet Try.f8 [] = some s8 := by kernel_rfl

-- 9 calls [11, 13, 16]
def s9 : SFunc := ⟨
  .seq (
    .region [
      ⟨some 2, none, [], .a 0 (.box (.t 0))⟩,
      ⟨some 4, none, [], .p (.mv (.c (.bool false)))⟩]) (
  .seq (
    .region [
      ⟨some 10, none, [], .p (.faddr 44 (.t 2))⟩,
      ⟨none, none, [], .w (.store1 (.t 10) (.c (.int .i64 0)))⟩]) (
  .seq (
    .region [
      ⟨some 12, none, [], .r (.loadN 45 (.t 2))⟩,
      ⟨some 13, none, [], .call 8004 4 true (.f 13) [.t 12]⟩,
      ⟨some 11, none, [], .p (.mv (.t 13))⟩,
      ⟨some 14, none, [], .p (.extract (.t 11) 0)⟩,
      ⟨some 15, none, [], .p (.extract (.t 11) 1)⟩,
      ⟨some 5, none, [], .p (.mv (.t 14))⟩,
      ⟨some 6, none, [], .p (.mv (.t 15))⟩]) (
  .seq (
    .region [
      ⟨some 16, none, [], .p (.mv (.t 1))⟩,
      ⟨some 17, none, [], .p (.conv .i64 (.t 16))⟩,
      ⟨some 18, none, [], .p (.bin .add (.c (.int .i64 65536)) (.t 17))⟩,
      ⟨some 19, none, [], .a 12012 (.mkSlice 1 1 [byteAV 0] (.t 18) (.t 18))⟩,
      ⟨some 20, none, [], .r (.toStr (.t 19))⟩,
      ⟨some 7, none, [], .p (.mv (.t 20))⟩]) (
  .seq (
    .region [
      ⟨some 22, none, [], .p (.mv (.t 5))⟩,
      ⟨some 23, none, [], .p (.mv (.t 6))⟩,
      ⟨some 24, none, [], .p (.mv (.t 7))⟩,
      ⟨some 25, none, [], .call 16012 4 true (.f 16) [.t 22, .t 23, .c (u32 7#32), .t 24]⟩,
      ⟨some 21, none, [], .p (.mv (.t 25))⟩,
      ⟨some 26, none, [], .p (.extract (.t 21) 0)⟩,
      ⟨some 27, none, [], .p (.extract (.t 21) 1)⟩,
      ⟨some 8, none, [], .p (.mv (.t 26))⟩,
      ⟨some 9, none, [], .p (.mv (.t 27))⟩]) (
  .seq (
    .seq (
      .region [
        ⟨some 28, none, [], .p (.mv (.t 1))⟩,
        ⟨some 29, none, [], .p (.bin .eql (.t 28) (.c (byteAV 0)))⟩]) (
    .cond (.t 29) (
      .seq (
        .region [
          ⟨some 30, none, [], .call 24000 4 true (.f 11) []⟩,
          ⟨some 31, none, [], .p (.mv (.t 30))⟩,
          ⟨some 32, some (31, true), [], .p (.mv (.t 9))⟩,
          ⟨some 33, some (31, true), [], .p (.bin .eql (.t 32) (.c (.int .i64 0)))⟩,
          ⟨some 34, none, [], .p (.pick (.t 31) (.t 33) (.c (.bool false)))⟩,
          ⟨some 35, none, [], .p (.mv (.t 34))⟩,
          ⟨some 36, some (35, true), [], .p (.mv (.t 8))⟩,
          ⟨some 37, some (35, true), [], .p (.lenV false (.t 36))⟩,
          ⟨some 38, some (35, true), [], .p (.bin .eql (.t 37) (.c (.int .i64 65536)))⟩,
          ⟨some 39, none, [], .p (.pick (.t 35) (.t 38) (.c (.bool false)))⟩,
          ⟨some 4, none, [], .p (.mv (.t 39))⟩]) (
      .ret)) (
      .skip))) (
  .seq (
    .region [
      ⟨some 40, none, [], .call 28000 4 true (.f 11) []⟩,
      ⟨some 41, none, [], .p (.mv (.t 40))⟩,
      ⟨some 42, some (41, true), [], .p (.mv (.t 9))⟩,
      ⟨some 43, some (41, true), [], .p (.bin .eql (.t 42) (.c (.int .i64 5)))⟩,
      ⟨some 44, none, [], .p (.pick (.t 41) (.t 43) (.c (.bool false)))⟩,
      ⟨some 45, none, [], .p (.mv (.t 44))⟩,
      ⟨some 46, some (45, true), [], .p (.mv (.t 8))⟩,
      ⟨some 47, some (45, true), [], .p (.bin .eql (.t 46) (.c (.str [])))⟩,
      ⟨some 48, none, [], .p (.pick (.t 45) (.t 47) (.c (.bool false)))⟩,
      ⟨some 4, none, [], .p (.mv (.t 48))⟩]) (
  .ret))))))),
  49, [Sum.inl 4]⟩

theorem c9 : cFunc Try.prog quiet Try.f9 [] = some s9 := by kernel_rfl

-- 10 calls [19]
abbrev k10_0 : List Nat := [0, 1, 2, 3, 16, 17]
abbrev a10_0 : List Nat := [0, 1, 2, 3]
abbrev e10_0 (v0 v1 v2 v3 v16 v17 : AV) : Env := [v0, v1, v2, v3, .dead, .dead, .dead, .dead, .dead, .dead, .dead, .dead, .dead, .dead, .dead, .dead, v16, v17, .dead, .dead, .dead, .dead, .dead, .dead, .dead, .dead, .dead, .dead, .dead, .dead, .dead, .dead, .dead, .dead, .dead, .dead, .dead, .dead, .dead, .dead, .dead, .dead, .dead]
abbrev x10_0 (v0 v1 v2 v3 : AV) : Env := [v0, v1, v2, v3, .dead, .dead, .dead, .dead, .dead, .dead, .dead, .dead, .dead, .dead, .dead, .dead, .dead, .dead, .dead, .dead, .dead, .dead, .dead, .dead, .dead, .dead, .dead, .dead, .dead, .dead, .dead, .dead, .dead, .dead, .dead, .dead, .dead, .dead, .dead, .dead, .dead, .dead, .dead]
def s10_b0 : SCode :=
  .seq (
    .region [
      ⟨some 18, none, [], .p (.bin .lss (.t 17) (.c (.int .i64 2)))⟩]) (
  .seq (
    .cond (.t 18) (
      .skip) (
      .exit 0)) (
  .seq (
    .block 1 (
      .seq (
        .region [
          ⟨some 19, none, [], .p (.idxAN 2 2 (.t 16) (.t 17))⟩,
          ⟨some 13, none, [], .a 12004 (.alloc [.int .i64 0, .int .i64 0])⟩,
          ⟨none, none, [], .w (.storeN 2 (.t 13) (.t 19))⟩]) (
      .seq (
        .region [
          ⟨some 20, none, [], .p (.mv (.t 0))⟩,
          ⟨some 21, none, [], .p (.mv (.t 1))⟩,
          ⟨some 22, none, [], .p (.bin .add (.t 20) (.t 21))⟩,
          ⟨some 0, none, [], .p (.mv (.t 22))⟩]) (
      .seq (
        .region [
          ⟨some 23, none, [], .p (.mv (.t 3))⟩,
          ⟨some 24, none, [], .p (.mv (.t 0))⟩,
          ⟨some 25, none, [], .p (.bin .xor (.t 23) (.t 24))⟩,
          ⟨some 26, none, [], .p (.iaddrA 2 1 (.t 13) (.c (.int .i64 0)))⟩,
          ⟨some 27, none, [], .r (.load1 (.t 26))⟩,
          ⟨some 28, none, [], .call 20020 4 true (.f 19) [.t 25, .t 27]⟩,
          ⟨some 3, none, [], .p (.mv (.t 28))⟩]) (
      .seq (
        .region [
          ⟨some 29, none, [], .p (.mv (.t 2))⟩,
          ⟨some 30, none, [], .p (.mv (.t 3))⟩,
          ⟨some 31, none, [], .p (.bin .add (.t 29) (.t 30))⟩,
          ⟨some 2, none, [], .p (.mv (.t 31))⟩]) (
      .region [
        ⟨some 32, none, [], .p (.mv (.t 1))⟩,
        ⟨some 33, none, [], .p (.mv (.t 2))⟩,
        ⟨some 34, none, [], .p (.bin .xor (.t 32) (.t 33))⟩,
        ⟨some 35, none, [], .p (.iaddrA 2 1 (.t 13) (.c (.int .i64 1)))⟩,
        ⟨some 36, none, [], .r (.load1 (.t 35))⟩,
        ⟨some 37, none, [], .call 28020 4 true (.f 19) [.t 34, .t 36]⟩,
        ⟨some 1, none, [], .p (.mv (.t 37))⟩])))))) (
  .region [
    ⟨some 38, none, [], .p (.bin .add (.t 17) (.c (.int .i64 1)))⟩,
    ⟨some 17, none, [], .p (.mv (.t 38))⟩])))

def s10 : SFunc := ⟨
  .seq (
    .region [
      ⟨some 8, none, [], .p (.mv (.c (u32 0#32)))⟩,
      ⟨some 9, none, [], .p (.mv (.c (u32 0#32)))⟩,
      ⟨some 10, none, [], .p (.mv (.c (u32 0#32)))⟩,
      ⟨some 11, none, [], .p (.mv (.c (u32 0#32)))⟩]) (
  .seq (
    .seq (
      .region [
        ⟨some 14, none, [], .p (.build [.int .i64 0, .int .i64 0] [(0, 1, .c (.int .i64 16)), (1, 1, .c (.int .i64 12))])⟩,
        ⟨some 15, none, [], .p (.build [.int .i64 0, .int .i64 0] [(0, 1, .c (.int .i64 8)), (1, 1, .c (.int .i64 7))])⟩,
        ⟨some 16, none, [], .p (.build [.int .i64 0, .int .i64 0, .int .i64 0, .int .i64 0] [(0, 2, .t 14), (2, 2, .t 15)])⟩,
        ⟨some 17, none, [], .p (.mv (.c (.int .i64 0)))⟩]) (
    .block 0 (
      .loop k10_0 a10_0 s10_b0))) (
  .seq (
    .region [
      ⟨some 39, none, [], .p (.mv (.t 0))⟩,
      ⟨some 40, none, [], .p (.mv (.t 1))⟩,
      ⟨some 41, none, [], .p (.mv (.t 2))⟩,
      ⟨some 42, none, [], .p (.mv (.t 3))⟩,
      ⟨some 8, none, [], .p (.mv (.t 39))⟩,
      ⟨some 9, none, [], .p (.mv (.t 40))⟩,
      ⟨some 10, none, [], .p (.mv (.t 41))⟩,
      ⟨some 11, none, [], .p (.mv (.t 42))⟩]) (
  .ret))),
  43, [Sum.inl 8, Sum.inl 9, Sum.inl 10, Sum.inl 11]⟩

theorem c10 : cFunc Try.prog quiet Try.f10 [[0, 1, 2, 3, 16, 17], [0, 1, 2, 3]] = some s10 := by kernel_rfl

-- 11 calls [10, 14, 16]
def s11 : SFunc := ⟨
  .seq (
    .region [
      ⟨some 0, none, [], .p (.mv (.c (.bool false)))⟩]) (
  .seq (
    .region [
      ⟨some 10, none, [], .call 4000 4 true (.f 10) [.c (u32 286331153#32), .c (u32 16909060#32), .c (u32 2609737539#32), .c (u32 19088743#32)]⟩,
      ⟨some 9, none, [], .p (.mv (.t 10))⟩,
      ⟨some 11, none, [], .p (.extract (.t 9) 0)⟩,
      ⟨some 12, none, [], .p (.extract (.t 9) 1)⟩,
      ⟨some 13, none, [], .p (.extract (.t 9) 2)⟩,
      ⟨some 14, none, [], .p (.extract (.t 9) 3)⟩,
      ⟨some 1, none, [], .p (.mv (.t 11))⟩,
      ⟨some 2, none, [], .p (.mv (.t 12))⟩,
      ⟨some 3, none, [], .p (.mv (.t 13))⟩,
      ⟨some 4, none, [], .p (.mv (.t 14))⟩]) (
  .seq (
    .region [
      ⟨some 16, none, [8008], .a 8000 (.mkSlice 1 1 [byteAV 0] (.c (.int .i64 32)) (.c (.int .i64 32)))⟩,
      ⟨some 17, none, [8008], .r (.toStr (.t 16))⟩,
      ⟨some 18, none, [8000], .a 8008 (.mkSlice 1 1 [byteAV 0] (.c (.int .i64 12)) (.c (.int .i64 12)))⟩,
      ⟨some 19, none, [8000], .r (.toStr (.t 18))⟩,
      ⟨some 20, none, [], .call 8016 4 true (.f 14) [.t 17, .t 19, .c (u32 0#32)]⟩,
      ⟨some 15, none, [], .p (.mv (.t 20))⟩,
      ⟨some 21, none, [], .p (.extract (.t 15) 0)⟩,
      ⟨some 22, none, [], .p (.extract (.t 15) 1)⟩,
      ⟨some 5, none, [], .p (.mv (.t 21))⟩,
      ⟨some 6, none, [], .p (.mv (.t 22))⟩]) (
  .seq (
    .region [
      ⟨some 24, none, [12008], .a 12000 (.mkSlice 1 1 [byteAV 0] (.c (.int .i64 32)) (.c (.int .i64 32)))⟩,
      ⟨some 25, none, [12008], .r (.toStr (.t 24))⟩,
      ⟨some 26, none, [12000], .a 12008 (.mkSlice 1 1 [byteAV 0] (.c (.int .i64 12)) (.c (.int .i64 12)))⟩,
      ⟨some 27, none, [12000], .r (.toStr (.t 26))⟩,
      ⟨some 28, none, [], .call 12016 4 true (.f 16) [.t 25, .t 27, .c (u32 0#32), .c (.str [0, 0])]⟩,
      ⟨some 23, none, [], .p (.mv (.t 28))⟩,
      ⟨some 29, none, [], .p (.extract (.t 23) 0)⟩,
      ⟨some 30, none, [], .p (.extract (.t 23) 1)⟩,
      ⟨some 7, none, [], .p (.mv (.t 29))⟩,
      ⟨some 8, none, [], .p (.mv (.t 30))⟩]) (
  .seq (
    .region [
      ⟨some 31, none, [], .p (.mv (.t 1))⟩,
      ⟨some 32, none, [], .p (.bin .eql (.t 31) (.c (u32 3928658676#32)))⟩,
      ⟨some 33, none, [], .p (.mv (.t 32))⟩,
      ⟨some 34, some (33, true), [], .p (.mv (.t 2))⟩,
      ⟨some 35, some (33, true), [], .p (.bin .eql (.t 34) (.c (u32 3407673550#32)))⟩,
      ⟨some 36, none, [], .p (.pick (.t 33) (.t 35) (.c (.bool false)))⟩,
      ⟨some 37, none, [], .p (.mv (.t 36))⟩,
      ⟨some 38, some (37, true), [], .p (.mv (.t 3))⟩,
      ⟨some 39, some (37, true), [], .p (.bin .eql (.t 38) (.c (u32 1166100270#32)))⟩,
      ⟨some 40, none, [], .p (.pick (.t 37) (.t 39) (.c (.bool false)))⟩,
      ⟨some 41, none, [], .p (.mv (.t 40))⟩,
      ⟨some 42, some (41, true), [], .p (.mv (.t 4))⟩,
      ⟨some 43, some (41, true), [], .p (.bin .eql (.t 42) (.c (u32 1484899515#32)))⟩,
      ⟨some 44, none, [], .p (.pick (.t 41) (.t 43) (.c (.bool false)))⟩,
      ⟨some 45, none, [], .p (.mv (.t 44))⟩,
      ⟨some 46, some (45, true), [], .p (.mv (.t 6))⟩,
      ⟨some 47, some (45, true), [], .p (.bin .eql (.t 46) (.c (.int .i64 0)))⟩,
      ⟨some 48, none, [], .p (.pick (.t 45) (.t 47) (.c (.bool false)))⟩,
      ⟨some 49, none, [], .p (.mv (.t 48))⟩,
      ⟨some 50, some (49, true), [], .p (.mv (.t 8))⟩,
      ⟨some 51, some (49, true), [], .p (.bin .eql (.t 50) (.c (.int .i64 0)))⟩,
      ⟨some 52, none, [], .p (.pick (.t 49) (.t 51) (.c (.bool false)))⟩,
      ⟨some 53, none, [], .p (.mv (.t 52))⟩,
      ⟨some 54, some (53, true), [], .p (.mv (.t 5))⟩,
      ⟨some 55, some (53, true), [], .p (.lenV false (.t 54))⟩,
      ⟨some 56, some (53, true), [], .p (.bin .eql (.t 55) (.c (.int .i64 64)))⟩,
      ⟨some 57, none, [], .p (.pick (.t 53) (.t 56) (.c (.bool false)))⟩,
      ⟨some 58, none, [], .p (.mv (.t 57))⟩,
      ⟨some 59, some (58, true), [], .p (.mv (.t 5))⟩,
      ⟨some 60, some (58, true), [], .p (.slcStr (.t 59) none (some (.c (.int .i64 2))))⟩,
      ⟨some 61, some (58, true), [], .p (.bin .eql (.t 60) (.c (.str [118, 184])))⟩,
      ⟨some 62, none, [], .p (.pick (.t 58) (.t 61) (.c (.bool false)))⟩,
      ⟨some 63, none, [], .p (.mv (.t 62))⟩,
      ⟨some 64, some (63, true), [], .p (.mv (.t 7))⟩,
      ⟨some 65, some (63, true), [], .p (.bin .eql (.t 64) (.c (.str [118, 184])))⟩,
      ⟨some 66, none, [], .p (.pick (.t 63) (.t 65) (.c (.bool false)))⟩,
      ⟨some 0, none, [], .p (.mv (.t 66))⟩]) (
  .ret))))),
  67, [Sum.inl 0]⟩

theorem c11 : cFunc Try.prog quiet Try.f11 [] = some s11 := by kernel_rfl

-- 12 calls [20]
def s12 : SFunc := ⟨
  .seq (
    .region [
      ⟨some 8, none, [], .a 0 (.alloc [u32 0#32, u32 0#32, u32 0#32, u32 0#32])⟩]) (
  .seq (
    .region [
      ⟨some 9, none, [], .p (.mv (.t 0))⟩,
      ⟨some 10, none, [], .p (.mv (.t 1))⟩,
      ⟨some 11, none, [], .p (.bin .add (.t 9) (.t 10))⟩,
      ⟨some 0, none, [], .p (.mv (.t 11))⟩]) (
  .seq (
    .region [
      ⟨some 12, none, [], .p (.mv (.t 3))⟩,
      ⟨some 13, none, [], .p (.mv (.t 0))⟩,
      ⟨some 14, none, [], .p (.bin .xor (.t 12) (.t 13))⟩,
      ⟨some 15, none, [], .call 8012 4 true (.f 20) [.t 14, .c (.int .i64 16)]⟩,
      ⟨some 3, none, [], .p (.mv (.t 15))⟩]) (
  .seq (
    .region [
      ⟨some 16, none, [], .p (.mv (.t 2))⟩,
      ⟨some 17, none, [], .p (.mv (.t 3))⟩,
      ⟨some 18, none, [], .p (.bin .add (.t 16) (.t 17))⟩,
      ⟨some 2, none, [], .p (.mv (.t 18))⟩]) (
  .seq (
    .region [
      ⟨some 19, none, [], .p (.mv (.t 1))⟩,
      ⟨some 20, none, [], .p (.mv (.t 2))⟩,
      ⟨some 21, none, [], .p (.bin .xor (.t 19) (.t 20))⟩,
      ⟨some 22, none, [], .call 16012 4 true (.f 20) [.t 21, .c (.int .i64 12)]⟩,
      ⟨some 1, none, [], .p (.mv (.t 22))⟩]) (
  .seq (
    .region [
      ⟨some 23, none, [], .p (.mv (.t 0))⟩,
      ⟨some 24, none, [], .p (.mv (.t 1))⟩,
      ⟨some 25, none, [], .p (.bin .add (.t 23) (.t 24))⟩,
      ⟨some 0, none, [], .p (.mv (.t 25))⟩]) (
  .seq (
    .region [
      ⟨some 26, none, [], .p (.mv (.t 3))⟩,
      ⟨some 27, none, [], .p (.mv (.t 0))⟩,
      ⟨some 28, none, [], .p (.bin .xor (.t 26) (.t 27))⟩,
      ⟨some 29, none, [], .call 24012 4 true (.f 20) [.t 28, .c (.int .i64 8)]⟩,
      ⟨some 3, none, [], .p (.mv (.t 29))⟩]) (
  .seq (
    .region [
      ⟨some 30, none, [], .p (.mv (.t 2))⟩,
      ⟨some 31, none, [], .p (.mv (.t 3))⟩,
      ⟨some 32, none, [], .p (.bin .add (.t 30) (.t 31))⟩,
      ⟨some 2, none, [], .p (.mv (.t 32))⟩]) (
  .seq (
    .region [
      ⟨some 33, none, [], .p (.mv (.t 1))⟩,
      ⟨some 34, none, [], .p (.mv (.t 2))⟩,
      ⟨some 35, none, [], .p (.bin .xor (.t 33) (.t 34))⟩,
      ⟨some 36, none, [], .call 32012 4 true (.f 20) [.t 35, .c (.int .i64 7)]⟩,
      ⟨some 1, none, [], .p (.mv (.t 36))⟩]) (
  .seq (
    .region [
      ⟨some 37, none, [], .p (.mv (.t 0))⟩,
      ⟨some 38, none, [], .p (.mv (.t 1))⟩,
      ⟨some 39, none, [], .p (.mv (.t 2))⟩,
      ⟨some 40, none, [], .p (.mv (.t 3))⟩,
      ⟨some 41, none, [], .p (.build [u32 0#32, u32 0#32, u32 0#32, u32 0#32] [(0, 1, .t 37), (1, 1, .t 38), (2, 1, .t 39), (3, 1, .t 40)])⟩,
      ⟨none, none, [], .w (.storeN 4 (.t 8) (.t 41))⟩]) (
  .ret)))))))))),
  42, [Sum.inr (8, 4, true)]⟩

theorem c12 : cFunc Try.prog quiet Try.f12 [] = some s12 := by kernel_rfl

-- 13 calls []
def s13 : SFunc := ⟨
  .seq (
    .region [
      ⟨some 1, none, [], .a 0 (.box (.t 0))⟩,
      ⟨some 2, none, [], .p (.mv (.c (.str [])))⟩,
      ⟨some 3, none, [], .p (.mv (.c (.str [])))⟩]) (
  .seq (
    .region [
      ⟨some 6, none, [], .p (.faddr 0 (.t 1))⟩,
      ⟨some 7, none, [], .p (.slcA 32 1 (.t 6) none none)⟩,
      ⟨some 8, none, [], .r (.toStr (.t 7))⟩,
      ⟨some 9, none, [], .p (.faddr 32 (.t 1))⟩,
      ⟨some 10, none, [], .p (.slcA 12 1 (.t 9) none none)⟩,
      ⟨some 11, none, [], .r (.toStr (.t 10))⟩,
      ⟨some 4, none, [], .p (.mv (.t 8))⟩,
      ⟨some 5, none, [], .p (.mv (.t 11))⟩]) (
  .seq (
    .seq (
      .region [
        ⟨some 12, none, [], .p (.faddr 44 (.t 1))⟩,
        ⟨some 13, none, [], .r (.load1 (.t 12))⟩,
        ⟨some 14, none, [], .p (.bin .lss (.t 13) (.c (.int .i64 0)))⟩]) (
    .cond (.t 14) (
      .seq (
        .region [
          ⟨some 15, none, [], .p (.mv (.t 4))⟩,
          ⟨some 16, none, [], .p (.faddr 44 (.t 1))⟩,
          ⟨some 17, none, [], .r (.load1 (.t 16))⟩,
          ⟨some 18, none, [], .p (.minmax true (.t 17) (.c (.int .i64 (-31))))⟩,
          ⟨some 19, none, [], .p (.un .neg (.t 18))⟩,
          ⟨some 20, none, [], .p (.slcStr (.t 15) none (some (.t 19)))⟩,
          ⟨some 21, none, [], .p (.mv (.t 5))⟩,
          ⟨some 2, none, [], .p (.mv (.t 20))⟩,
          ⟨some 3, none, [], .p (.mv (.t 21))⟩]) (
      .ret)) (
      .skip))) (
  .seq (
    .region [
      ⟨some 22, none, [], .p (.mv (.t 4))⟩,
      ⟨some 23, none, [], .p (.mv (.t 5))⟩,
      ⟨some 2, none, [], .p (.mv (.t 22))⟩,
      ⟨some 3, none, [], .p (.mv (.t 23))⟩]) (
  .ret)))),
  24, [Sum.inl 2, Sum.inl 3]⟩

theorem c13 : cFunc Try.prog quiet Try.f13 [] = some s13 := by kernel_rfl

-- 14 calls [21, 22]
def s14 : SFunc := ⟨
  .seq (
    .region [
      ⟨some 6, none, [], .p (.mv (.c (.str [])))⟩,
      ⟨some 7, none, [], .p (.mv (.c (.int .i64 0)))⟩]) (
  .seq (
    .seq (
      .region [
        ⟨some 8, none, [], .p (.mv (.t 0))⟩,
        ⟨some 9, none, [], .p (.mv (.t 1))⟩,
        ⟨some 10, none, [], .call 4008 4 true (.f 21) [.t 8, .t 9]⟩,
        ⟨some 11, none, [], .p (.un .not (.t 10))⟩]) (
    .cond (.t 11) (
      .seq (
        .region [
          ⟨some 6, none, [], .p (.mv (.c (.str [])))⟩,
          ⟨some 7, none, [], .p (.mv (.c (.int .i64 7)))⟩]) (
      .ret)) (
      .skip))) (
  .seq (
    .region [
      ⟨some 12, none, [], .p (.mv (.t 0))⟩,
      ⟨some 13, none, [], .p (.mv (.t 1))⟩,
      ⟨some 14, none, [], .p (.mv (.t 2))⟩,
      ⟨some 15, none, [], .call 12012 4 true (.f 22) [.t 12, .t 13, .t 14]⟩,
      ⟨some 6, none, [], .p (.mv (.t 15))⟩,
      ⟨some 7, none, [], .p (.mv (.c (.int .i64 0)))⟩]) (
  .ret))),
  16, [Sum.inl 6, Sum.inl 7]⟩

theorem c14 : cFunc Try.prog quiet Try.f14 [] = some s14 := by kernel_rfl

-- 15 calls [23, 24, 25]
abbrev k15_1 : List Nat := [12, 13, 15, 16]
abbrev a15_1 : List Nat := [15]
abbrev e15_1 (v12 v13 v15 v16 : AV) : Env := [.dead, .dead, .dead, .dead, .dead, .dead, .dead, .dead, .dead, .dead, .dead, .dead, v12, v13, .dead, v15, v16, .dead, .dead, .dead, .dead, .dead, .dead, .dead, .dead, .dead, .dead, .dead, .dead, .dead, .dead, .dead, .dead, .dead, .dead, .dead, .dead, .dead, .dead, .dead, .dead, .dead, .dead, .dead, .dead, .dead, .dead, .dead, .dead, .dead, .dead, .dead, .dead, .dead, .dead, .dead, .dead, .dead, .dead, .dead, .dead, .dead, .dead, .dead, .dead, .dead, .dead, .dead, .dead, .dead, .dead, .dead, .dead, .dead, .dead, .dead, .dead, .dead, .dead, .dead, .dead, .dead, .dead, .dead, .dead, .dead, .dead, .dead, .dead, .dead, .dead, .dead, .dead, .dead, .dead, .dead, .dead, .dead, .dead, .dead, .dead, .dead, .dead, .dead, .dead, .dead, .dead, .dead, .dead]
abbrev x15_1 (v15 : AV) : Env := [.dead, .dead, .dead, .dead, .dead, .dead, .dead, .dead, .dead, .dead, .dead, .dead, .dead, .dead, .dead, v15, .dead, .dead, .dead, .dead, .dead, .dead, .dead, .dead, .dead, .dead, .dead, .dead, .dead, .dead, .dead, .dead, .dead, .dead, .dead, .dead, .dead, .dead, .dead, .dead, .dead, .dead, .dead, .dead, .dead, .dead, .dead, .dead, .dead, .dead, .dead, .dead, .dead, .dead, .dead, .dead, .dead, .dead, .dead, .dead, .dead, .dead, .dead, .dead, .dead, .dead, .dead, .dead, .dead, .dead, .dead, .dead, .dead, .dead, .dead, .dead, .dead, .dead, .dead, .dead, .dead, .dead, .dead, .dead, .dead, .dead, .dead, .dead, .dead, .dead, .dead, .dead, .dead, .dead, .dead, .dead, .dead, .dead, .dead, .dead, .dead, .dead, .dead, .dead, .dead, .dead, .dead, .dead, .dead]
def s15_b1 : SCode :=
  .seq (
    .seq (
      .region [
        ⟨some 92, none, [], .p (.mv (.t 16))⟩,
        ⟨some 93, none, [], .p (.bin .lss (.t 92) (.c (.int .i64 16)))⟩]) (
    .cond (.t 93) (
      .skip) (
      .exit 2))) (
  .seq (
    .block 3 (
      .region [
        ⟨some 96, none, [], .p (.mv (.t 15))⟩,
        ⟨some 97, none, [], .p (.mv (.t 16))⟩,
        ⟨some 98, none, [], .p (.iaddrA 16 1 (.t 13) (.t 97))⟩,
        ⟨some 99, none, [], .r (.load1 (.t 98))⟩,
        ⟨some 100, none, [], .p (.mv (.t 16))⟩,
        ⟨some 101, none, [], .p (.iaddrA 16 1 (.t 12) (.t 100))⟩,
        ⟨some 102, none, [], .r (.load1 (.t 101))⟩,
        ⟨some 103, none, [], .p (.bin .add (.t 99) (.t 102))⟩,
        ⟨some 104, none, [], .a 88032 (.buildS 1 1 [u32 0#32] [(0, 1, .t 103)])⟩,
        ⟨some 105, none, [], .w (.append 88036 1 4 (.t 96) (.t 104))⟩,
        ⟨some 15, none, [], .p (.mv (.t 105))⟩])) (
  .region [
    ⟨some 94, none, [], .p (.mv (.t 16))⟩,
    ⟨some 95, none, [], .p (.bin .add (.t 94) (.c (.int .i64 1)))⟩,
    ⟨some 16, none, [], .p (.mv (.t 95))⟩]))

abbrev k15_0 : List Nat := [12, 13, 14]
abbrev a15_0 : List Nat := [12, 13]
abbrev e15_0 (v12 v13 v14 : AV) : Env := [.dead, .dead, .dead, .dead, .dead, .dead, .dead, .dead, .dead, .dead, .dead, .dead, v12, v13, v14, .dead, .dead, .dead, .dead, .dead, .dead, .dead, .dead, .dead, .dead, .dead, .dead, .dead, .dead, .dead, .dead, .dead, .dead, .dead, .dead, .dead, .dead, .dead, .dead, .dead, .dead, .dead, .dead, .dead, .dead, .dead, .dead, .dead, .dead, .dead, .dead, .dead, .dead, .dead, .dead, .dead, .dead, .dead, .dead, .dead, .dead, .dead, .dead, .dead, .dead, .dead, .dead, .dead, .dead, .dead, .dead, .dead, .dead, .dead, .dead, .dead, .dead, .dead, .dead, .dead, .dead, .dead, .dead, .dead, .dead, .dead, .dead, .dead, .dead, .dead, .dead, .dead, .dead, .dead, .dead, .dead, .dead, .dead, .dead, .dead, .dead, .dead, .dead, .dead, .dead, .dead, .dead, .dead, .dead]
abbrev x15_0 (v12 v13 : AV) : Env := [.dead, .dead, .dead, .dead, .dead, .dead, .dead, .dead, .dead, .dead, .dead, .dead, v12, v13, .dead, .dead, .dead, .dead, .dead, .dead, .dead, .dead, .dead, .dead, .dead, .dead, .dead, .dead, .dead, .dead, .dead, .dead, .dead, .dead, .dead, .dead, .dead, .dead, .dead, .dead, .dead, .dead, .dead, .dead, .dead, .dead, .dead, .dead, .dead, .dead, .dead, .dead, .dead, .dead, .dead, .dead, .dead, .dead, .dead, .dead, .dead, .dead, .dead, .dead, .dead, .dead, .dead, .dead, .dead, .dead, .dead, .dead, .dead, .dead, .dead, .dead, .dead, .dead, .dead, .dead, .dead, .dead, .dead, .dead, .dead, .dead, .dead, .dead, .dead, .dead, .dead, .dead, .dead, .dead, .dead, .dead, .dead, .dead, .dead, .dead, .dead, .dead, .dead, .dead, .dead, .dead, .dead, .dead, .dead]
def s15_b0 : SCode :=
  .seq (
    .seq (
      .region [
        ⟨some 72, none, [], .p (.mv (.t 14))⟩,
        ⟨some 73, none, [], .p (.bin .lss (.t 72) (.c (.int .i64 10)))⟩]) (
    .cond (.t 73) (
      .skip) (
      .exit 0))) (
  .seq (
    .block 1 (
      .seq (
        .region [
          ⟨some 76, none, [], .r (.loadN 16 (.t 13))⟩,
          ⟨some 77, none, [], .call 40004 4 true (.f 24) [.t 76, .c (.int .i64 0), .c (.int .i64 4), .c (.int .i64 8), .c (.int .i64 12)]⟩,
          ⟨none, none, [], .w (.storeN 16 (.t 13) (.t 77))⟩]) (
      .seq (
        .region [
          ⟨some 78, none, [], .r (.loadN 16 (.t 13))⟩,
          ⟨some 79, none, [], .call 44004 4 true (.f 24) [.t 78, .c (.int .i64 1), .c (.int .i64 5), .c (.int .i64 9), .c (.int .i64 13)]⟩,
          ⟨none, none, [], .w (.storeN 16 (.t 13) (.t 79))⟩]) (
      .seq (
        .region [
          ⟨some 80, none, [], .r (.loadN 16 (.t 13))⟩,
          ⟨some 81, none, [], .call 48004 4 true (.f 24) [.t 80, .c (.int .i64 2), .c (.int .i64 6), .c (.int .i64 10), .c (.int .i64 14)]⟩,
          ⟨none, none, [], .w (.storeN 16 (.t 13) (.t 81))⟩]) (
      .seq (
        .region [
          ⟨some 82, none, [], .r (.loadN 16 (.t 13))⟩,
          ⟨some 83, none, [], .call 52004 4 true (.f 24) [.t 82, .c (.int .i64 3), .c (.int .i64 7), .c (.int .i64 11), .c (.int .i64 15)]⟩,
          ⟨none, none, [], .w (.storeN 16 (.t 13) (.t 83))⟩]) (
      .seq (
        .region [
          ⟨some 84, none, [], .r (.loadN 16 (.t 13))⟩,
          ⟨some 85, none, [], .call 56004 4 true (.f 24) [.t 84, .c (.int .i64 0), .c (.int .i64 5), .c (.int .i64 10), .c (.int .i64 15)]⟩,
          ⟨none, none, [], .w (.storeN 16 (.t 13) (.t 85))⟩]) (
      .seq (
        .region [
          ⟨some 86, none, [], .r (.loadN 16 (.t 13))⟩,
          ⟨some 87, none, [], .call 60004 4 true (.f 24) [.t 86, .c (.int .i64 1), .c (.int .i64 6), .c (.int .i64 11), .c (.int .i64 12)]⟩,
          ⟨none, none, [], .w (.storeN 16 (.t 13) (.t 87))⟩]) (
      .seq (
        .region [
          ⟨some 88, none, [], .r (.loadN 16 (.t 13))⟩,
          ⟨some 89, none, [], .call 64004 4 true (.f 24) [.t 88, .c (.int .i64 2), .c (.int .i64 7), .c (.int .i64 8), .c (.int .i64 13)]⟩,
          ⟨none, none, [], .w (.storeN 16 (.t 13) (.t 89))⟩]) (
      .region [
        ⟨some 90, none, [], .r (.loadN 16 (.t 13))⟩,
        ⟨some 91, none, [], .call 68004 4 true (.f 24) [.t 90, .c (.int .i64 3), .c (.int .i64 4), .c (.int .i64 9), .c (.int .i64 14)]⟩,
        ⟨none, none, [], .w (.storeN 16 (.t 13) (.t 91))⟩]))))))))) (
  .region [
    ⟨some 74, none, [], .p (.mv (.t 14))⟩,
    ⟨some 75, none, [], .p (.bin .add (.t 74) (.c (.int .i64 1)))⟩,
    ⟨some 14, none, [], .p (.mv (.t 75))⟩]))

def s15 : SFunc := ⟨
  .seq (
    .region [
      ⟨some 6, none, [], .p (.mv (.c (.str [])))⟩,
      ⟨some 7, none, [], .p (.mv (.c (.int .i64 0)))⟩]) (
  .seq (
    .seq (
      .region [
        ⟨some 18, none, [], .p (.mv (.t 0))⟩,
        ⟨some 19, none, [], .p (.lenV false (.t 18))⟩,
        ⟨some 20, none, [], .p (.bin .neq (.t 19) (.c (.int .i64 32)))⟩,
        ⟨some 21, none, [], .p (.mv (.t 20))⟩,
        ⟨some 22, some (21, false), [], .p (.mv (.t 1))⟩,
        ⟨some 23, some (21, false), [], .p (.lenV false (.t 22))⟩,
        ⟨some 24, some (21, false), [], .p (.bin .neq (.t 23) (.c (.int .i64 12)))⟩,
        ⟨some 25, none, [], .p (.pick (.t 21) (.c (.bool true)) (.t 24))⟩]) (
    .cond (.t 25) (
      .seq (
        .region [
          ⟨some 6, none, [], .p (.mv (.c (.str [])))⟩,
          ⟨some 7, none, [], .p (.mv (.c (.int .i64 7)))⟩]) (
      .ret)) (
      .skip))) (
  .seq (
    .region [
      ⟨some 27, none, [], .p (.mv (.t 0))⟩,
      ⟨some 28, none, [], .call 12004 4 true (.f 23) [.t 27, .c (.bool false)]⟩,
      ⟨some 26, none, [], .p (.mv (.t 28))⟩,
      ⟨some 29, none, [], .p (.extract (.t 26) 0)⟩,
      ⟨some 30, none, [], .p (.extract (.t 26) 1)⟩,
      ⟨some 8, none, [], .p (.mv (.t 29))⟩,
      ⟨some 9, none, [], .p (.mv (.t 30))⟩]) (
  .seq (
    .region [
      ⟨some 32, none, [], .p (.mv (.t 1))⟩,
      ⟨some 33, none, [], .call 16004 4 true (.f 23) [.t 32, .c (.bool false)]⟩,
      ⟨some 31, none, [], .p (.mv (.t 33))⟩,
      ⟨some 34, none, [], .p (.extract (.t 31) 0)⟩,
      ⟨some 35, none, [], .p (.extract (.t 31) 1)⟩,
      ⟨some 10, none, [], .p (.mv (.t 34))⟩,
      ⟨some 11, none, [], .p (.mv (.t 35))⟩]) (
  .seq (
    .region [
      ⟨some 36, none, [], .p (.mv (.t 8))⟩,
      ⟨some 37, none, [], .p (.iaddrS 1 (.t 36) (.c (.int .i64 0)))⟩,
      ⟨some 38, none, [20140], .r (.load1 (.t 37))⟩,
      ⟨some 39, none, [], .p (.mv (.t 8))⟩,
      ⟨some 40, none, [], .p (.iaddrS 1 (.t 39) (.c (.int .i64 1)))⟩,
      ⟨some 41, none, [20140], .r (.load1 (.t 40))⟩,
      ⟨some 42, none, [], .p (.mv (.t 8))⟩,
      ⟨some 43, none, [], .p (.iaddrS 1 (.t 42) (.c (.int .i64 2)))⟩,
      ⟨some 44, none, [20140], .r (.load1 (.t 43))⟩,
      ⟨some 45, none, [], .p (.mv (.t 8))⟩,
      ⟨some 46, none, [], .p (.iaddrS 1 (.t 45) (.c (.int .i64 3)))⟩,
      ⟨some 47, none, [20140], .r (.load1 (.t 46))⟩,
      ⟨some 48, none, [], .p (.mv (.t 8))⟩,
      ⟨some 49, none, [], .p (.iaddrS 1 (.t 48) (.c (.int .i64 4)))⟩,
      ⟨some 50, none, [20140], .r (.load1 (.t 49))⟩,
      ⟨some 51, none, [], .p (.mv (.t 8))⟩,
      ⟨some 52, none, [], .p (.iaddrS 1 (.t 51) (.c (.int .i64 5)))⟩,
      ⟨some 53, none, [20140], .r (.load1 (.t 52))⟩,
      ⟨some 54, none, [], .p (.mv (.t 8))⟩,
      ⟨some 55, none, [], .p (.iaddrS 1 (.t 54) (.c (.int .i64 6)))⟩,
      ⟨some 56, none, [20140], .r (.load1 (.t 55))⟩,
      ⟨some 57, none, [], .p (.mv (.t 8))⟩,
      ⟨some 58, none, [], .p (.iaddrS 1 (.t 57) (.c (.int .i64 7)))⟩,
      ⟨some 59, none, [20140], .r (.load1 (.t 58))⟩,
      ⟨some 60, none, [], .p (.mv (.t 2))⟩,
      ⟨some 61, none, [], .p (.mv (.t 10))⟩,
      ⟨some 62, none, [], .p (.iaddrS 1 (.t 61) (.c (.int .i64 0)))⟩,
      ⟨some 63, none, [20140], .r (.load1 (.t 62))⟩,
      ⟨some 64, none, [], .p (.mv (.t 10))⟩,
      ⟨some 65, none, [], .p (.iaddrS 1 (.t 64) (.c (.int .i64 1)))⟩,
      ⟨some 66, none, [20140], .r (.load1 (.t 65))⟩,
      ⟨some 67, none, [], .p (.mv (.t 10))⟩,
      ⟨some 68, none, [], .p (.iaddrS 1 (.t 67) (.c (.int .i64 2)))⟩,
      ⟨some 69, none, [20140], .r (.load1 (.t 68))⟩,
      ⟨some 70, none, [], .p (.build [u32 0#32, u32 0#32, u32 0#32, u32 0#32, u32 0#32, u32 0#32, u32 0#32, u32 0#32, u32 0#32, u32 0#32, u32 0#32, u32 0#32, u32 0#32, u32 0#32, u32 0#32, u32 0#32] [(0, 1, .c (u32 1634760805#32)), (1, 1, .c (u32 857760878#32)), (2, 1, .c (u32 2036477234#32)), (3, 1, .c (u32 1797285236#32)), (4, 1, .t 38), (5, 1, .t 41), (6, 1, .t 44), (7, 1, .t 47), (8, 1, .t 50), (9, 1, .t 53), (10, 1, .t 56), (11, 1, .t 59), (12, 1, .t 60), (13, 1, .t 63), (14, 1, .t 66), (15, 1, .t 69)])⟩,
      ⟨some 12, none, [], .a 20140 (.alloc [u32 0#32, u32 0#32, u32 0#32, u32 0#32, u32 0#32, u32 0#32, u32 0#32, u32 0#32, u32 0#32, u32 0#32, u32 0#32, u32 0#32, u32 0#32, u32 0#32, u32 0#32, u32 0#32])⟩,
      ⟨none, none, [], .w (.storeN 16 (.t 12) (.t 70))⟩]) (
  .seq (
    .region [
      ⟨some 71, none, [], .r (.loadN 16 (.t 12))⟩,
      ⟨some 13, none, [], .a 24004 (.alloc [u32 0#32, u32 0#32, u32 0#32, u32 0#32, u32 0#32, u32 0#32, u32 0#32, u32 0#32, u32 0#32, u32 0#32, u32 0#32, u32 0#32, u32 0#32, u32 0#32, u32 0#32, u32 0#32])⟩,
      ⟨none, none, [], .w (.storeN 16 (.t 13) (.t 71))⟩]) (
  .seq (
    .seq (
      .region [
        ⟨some 14, none, [], .p (.mv (.c (.int .i64 0)))⟩]) (
    .block 0 (
      .loop k15_0 a15_0 s15_b0))) (
  .seq (
    .region [
      ⟨some 15, none, [], .p (.mv (.c (.slice none 0 0)))⟩]) (
  .seq (
    .seq (
      .region [
        ⟨some 16, none, [], .p (.mv (.c (.int .i64 0)))⟩]) (
    .block 2 (
      .loop k15_1 a15_1 s15_b1))) (
  .seq (
    .region [
      ⟨some 106, none, [], .p (.mv (.t 15))⟩,
      ⟨some 107, none, [], .call 92004 4 true (.f 25) [.t 106, .c (.bool false)]⟩,
      ⟨some 17, none, [], .p (.mv (.t 107))⟩]) (
  .seq (
    .region [
      ⟨some 108, none, [], .p (.mv (.t 17))⟩,
      ⟨some 6, none, [], .p (.mv (.t 108))⟩,
      ⟨some 7, none, [], .p (.mv (.c (.int .i64 0)))⟩]) (
  .ret))))))))))),
  109, [Sum.inl 6, Sum.inl 7]⟩

theorem c15 : cFunc Try.prog quiet Try.f15 [[12, 13, 14], [12, 13], [12, 13, 15, 16], [15]] = some s15 := by kernel_rfl

-- 16 calls [18, 21, 22]
abbrev k16_0 : List Nat := [0, 1, 2, 3, 10]
abbrev a16_0 : List Nat := [10]
abbrev e16_0 (v0 v1 v2 v3 v10 : AV) : Env := [v0, v1, v2, v3, .dead, .dead, .dead, .dead, .dead, .dead, v10, .dead, .dead, .dead, .dead, .dead, .dead, .dead, .dead, .dead, .dead, .dead, .dead, .dead, .dead, .dead, .dead, .dead, .dead, .dead, .dead, .dead, .dead, .dead, .dead, .dead, .dead, .dead, .dead, .dead, .dead, .dead, .dead, .dead, .dead, .dead, .dead]
abbrev x16_0 (v10 : AV) : Env := [.dead, .dead, .dead, .dead, .dead, .dead, .dead, .dead, .dead, .dead, v10, .dead, .dead, .dead, .dead, .dead, .dead, .dead, .dead, .dead, .dead, .dead, .dead, .dead, .dead, .dead, .dead, .dead, .dead, .dead, .dead, .dead, .dead, .dead, .dead, .dead, .dead, .dead, .dead, .dead, .dead, .dead, .dead, .dead, .dead, .dead, .dead]
def s16_b0 : SCode :=
  .seq (
    .seq (
      .region [
        ⟨some 24, none, [], .p (.mv (.t 3))⟩,
        ⟨some 25, none, [], .p (.lenV false (.t 24))⟩,
        ⟨some 26, none, [], .p (.bin .gtr (.t 25) (.c (.int .i64 0)))⟩]) (
    .cond (.t 26) (
      .skip) (
      .exit 1))) (
  .seq (
    .block 2 (
      .seq (
        .region [
          ⟨some 29, none, [], .p (.mv (.t 3))⟩,
          ⟨some 30, none, [], .p (.lenV false (.t 29))⟩,
          ⟨some 31, none, [], .p (.minmax false (.t 30) (.c (.int .i64 64)))⟩,
          ⟨some 11, none, [], .p (.mv (.t 31))⟩]) (
      .seq (
        .region [
          ⟨some 32, none, [], .p (.mv (.t 10))⟩,
          ⟨some 33, none, [], .p (.mv (.t 3))⟩,
          ⟨some 34, none, [], .p (.mv (.t 11))⟩,
          ⟨some 35, none, [], .p (.slcStr (.t 33) none (some (.t 34)))⟩,
          ⟨some 36, none, [], .p (.mv (.t 0))⟩,
          ⟨some 37, none, [], .p (.mv (.t 1))⟩,
          ⟨some 38, none, [], .p (.mv (.t 2))⟩,
          ⟨some 39, none, [], .call 36028 4 true (.f 22) [.t 36, .t 37, .t 38]⟩,
          ⟨some 40, none, [], .call 36032 4 true (.f 18) [.t 35, .t 39]⟩,
          ⟨some 41, none, [], .w (.append 36036 1 1 (.t 32) (.t 40))⟩,
          ⟨some 10, none, [], .p (.mv (.t 41))⟩]) (
      .region [
        ⟨some 42, none, [], .p (.mv (.t 3))⟩,
        ⟨some 43, none, [], .p (.mv (.t 11))⟩,
        ⟨some 44, none, [], .p (.slcStr (.t 42) (some (.t 43)) none)⟩,
        ⟨some 3, none, [], .p (.mv (.t 44))⟩])))) (
  .region [
    ⟨some 27, none, [], .p (.mv (.t 2))⟩,
    ⟨some 28, none, [], .p (.bin .add (.t 27) (.c (u32 1#32)))⟩,
    ⟨some 2, none, [], .p (.mv (.t 28))⟩]))

def s16 : SFunc := ⟨
  .seq (
    .region [
      ⟨some 8, none, [], .p (.mv (.c (.str [])))⟩,
      ⟨some 9, none, [], .p (.mv (.c (.int .i64 0)))⟩]) (
  .seq (
    .block 0 (
      .seq (
        .region [
          ⟨some 13, none, [], .p (.mv (.t 0))⟩,
          ⟨some 14, none, [], .p (.mv (.t 1))⟩,
          ⟨some 15, none, [], .call 4008 4 true (.f 21) [.t 13, .t 14]⟩,
          ⟨some 16, none, [], .p (.un .not (.t 15))⟩,
          ⟨some 12, none, [], .p (.mv (.t 16))⟩]) (
      .cond (.t 12) (
        .seq (
          .region [
            ⟨some 8, none, [], .p (.mv (.c (.str [])))⟩,
            ⟨some 9, none, [], .p (.mv (.c (.int .i64 7)))⟩]) (
        .ret)) (
        .seq (
          .region [
            ⟨some 18, none, [], .p (.mv (.t 3))⟩,
            ⟨some 19, none, [], .p (.lenV false (.t 18))⟩,
            ⟨some 20, none, [], .p (.bin .gtr (.t 19) (.c (.int .i64 65536)))⟩,
            ⟨some 17, none, [], .p (.mv (.t 20))⟩]) (
        .cond (.t 17) (
          .seq (
            .region [
              ⟨some 8, none, [], .p (.mv (.c (.str [])))⟩,
              ⟨some 9, none, [], .p (.mv (.c (.int .i64 5)))⟩]) (
          .ret)) (
          .skip)))))) (
  .seq (
    .region [
      ⟨some 21, none, [], .p (.mv (.t 3))⟩,
      ⟨some 22, none, [], .p (.lenV false (.t 21))⟩,
      ⟨some 23, none, [], .a 20008 (.mkSlice 1 1 [byteAV 0] (.c (.int .i64 0)) (.t 22))⟩,
      ⟨some 10, none, [], .p (.mv (.t 23))⟩]) (
  .seq (
    .block 1 (
      .loop k16_0 a16_0 s16_b0)) (
  .seq (
    .region [
      ⟨some 45, none, [], .p (.mv (.t 10))⟩,
      ⟨some 46, none, [], .r (.toStr (.t 45))⟩,
      ⟨some 8, none, [], .p (.mv (.t 46))⟩,
      ⟨some 9, none, [], .p (.mv (.c (.int .i64 0)))⟩]) (
  .ret))))),
  47, [Sum.inl 8, Sum.inl 9]⟩

theorem c16 : cFunc Try.prog quiet Try.f16 [[0, 1, 2, 3, 10], [10]] = some s16 := by kernel_rfl

-- 17 calls [15, 26]
abbrev k17_0 : List Nat := [0, 1, 2, 3, 10]
abbrev a17_0 : List Nat := [3, 10]
abbrev e17_0 (v0 v1 v2 v3 v10 : AV) : Env := [v0, v1, v2, v3, .dead, .dead, .dead, .dead, .dead, .dead, v10, .dead, .dead, .dead, .dead, .dead, .dead, .dead, .dead, .dead, .dead, .dead, .dead, .dead, .dead, .dead, .dead, .dead, .dead, .dead, .dead, .dead, .dead, .dead, .dead, .dead, .dead, .dead, .dead, .dead, .dead, .dead, .dead, .dead, .dead, .dead]
abbrev x17_0 (v3 v10 : AV) : Env := [.dead, .dead, .dead, v3, .dead, .dead, .dead, .dead, .dead, .dead, v10, .dead, .dead, .dead, .dead, .dead, .dead, .dead, .dead, .dead, .dead, .dead, .dead, .dead, .dead, .dead, .dead, .dead, .dead, .dead, .dead, .dead, .dead, .dead, .dead, .dead, .dead, .dead, .dead, .dead, .dead, .dead, .dead, .dead, .dead, .dead]
def s17_b0 : SCode :=
  .seq (
    .seq (
      .region [
        ⟨some 25, none, [], .p (.mv (.t 10))⟩,
        ⟨some 26, none, [], .p (.lenV false (.t 25))⟩,
        ⟨some 27, none, [], .p (.mv (.t 3))⟩,
        ⟨some 28, none, [], .p (.lenV false (.t 27))⟩,
        ⟨some 29, none, [], .p (.bin .lss (.t 26) (.t 28))⟩]) (
    .cond (.t 29) (
      .skip) (
      .exit 0))) (
  .block 1 (
    .seq (
      .region [
        ⟨some 31, none, [], .p (.mv (.t 0))⟩,
        ⟨some 32, none, [], .p (.mv (.t 1))⟩,
        ⟨some 33, none, [], .p (.mv (.t 2))⟩,
        ⟨some 34, none, [], .call 28012 4 true (.f 15) [.t 31, .t 32, .t 33]⟩,
        ⟨some 30, none, [], .p (.mv (.t 34))⟩,
        ⟨some 35, none, [], .p (.extract (.t 30) 0)⟩,
        ⟨some 36, none, [], .p (.extract (.t 30) 1)⟩,
        ⟨some 11, none, [], .p (.mv (.t 35))⟩,
        ⟨some 12, none, [], .p (.mv (.t 36))⟩]) (
    .seq (
      .region [
        ⟨some 37, none, [], .p (.mv (.t 10))⟩,
        ⟨some 38, none, [], .p (.mv (.t 11))⟩,
        ⟨some 39, none, [], .p (.bin .add (.t 37) (.t 38))⟩,
        ⟨some 10, none, [], .p (.mv (.t 39))⟩]) (
    .region [
      ⟨some 40, none, [], .p (.mv (.t 2))⟩,
      ⟨some 41, none, [], .p (.bin .add (.t 40) (.c (u32 1#32)))⟩,
      ⟨some 2, none, [], .p (.mv (.t 41))⟩]))))

def s17 : SFunc := ⟨
  .seq (
    .region [
      ⟨some 8, none, [], .p (.mv (.c (.str [])))⟩,
      ⟨some 9, none, [], .p (.mv (.c (.int .i64 0)))⟩]) (
  .seq (
    .seq (
      .region [
        ⟨some 14, none, [], .p (.mv (.t 0))⟩,
        ⟨some 15, none, [], .p (.lenV false (.t 14))⟩,
        ⟨some 16, none, [], .p (.bin .neq (.t 15) (.c (.int .i64 32)))⟩,
        ⟨some 17, none, [], .p (.mv (.t 16))⟩,
        ⟨some 18, some (17, false), [], .p (.mv (.t 1))⟩,
        ⟨some 19, some (17, false), [], .p (.lenV false (.t 18))⟩,
        ⟨some 20, some (17, false), [], .p (.bin .neq (.t 19) (.c (.int .i64 12)))⟩,
        ⟨some 21, none, [], .p (.pick (.t 17) (.c (.bool true)) (.t 20))⟩]) (
    .cond (.t 21) (
      .seq (
        .region [
          ⟨some 8, none, [], .p (.mv (.c (.str [])))⟩,
          ⟨some 9, none, [], .p (.mv (.c (.int .i64 7)))⟩]) (
      .ret)) (
      .skip))) (
  .seq (
    .seq (
      .region [
        ⟨some 22, none, [], .p (.mv (.t 3))⟩,
        ⟨some 23, none, [], .p (.lenV false (.t 22))⟩,
        ⟨some 24, none, [], .p (.bin .gtr (.t 23) (.c (.int .i64 65536)))⟩]) (
    .cond (.t 24) (
      .seq (
        .region [
          ⟨some 8, none, [], .p (.mv (.c (.str [])))⟩,
          ⟨some 9, none, [], .p (.mv (.c (.int .i64 5)))⟩]) (
      .ret)) (
      .skip))) (
  .seq (
    .region [
      ⟨some 10, none, [], .p (.mv (.c (.str [])))⟩]) (
  .seq (
    .block 0 (
      .loop k17_0 a17_0 s17_b0)) (
  .seq (
    .region [
      ⟨some 42, none, [], .p (.mv (.t 3))⟩,
      ⟨some 43, none, [], .p (.mv (.t 10))⟩,
      ⟨some 44, none, [], .call 40008 4 true (.f 26) [.t 42, .t 43]⟩,
      ⟨some 13, none, [], .p (.mv (.t 44))⟩]) (
  .seq (
    .region [
      ⟨some 45, none, [], .p (.mv (.t 13))⟩,
      ⟨some 8, none, [], .p (.mv (.t 45))⟩,
      ⟨some 9, none, [], .p (.mv (.c (.int .i64 0)))⟩]) (
  .ret))))))),
  46, [Sum.inl 8, Sum.inl 9]⟩

theorem c17 : cFunc Try.prog quiet Try.f17 [[0, 1, 2, 3, 10], [3, 10]] = some s17 := by kernel_rfl

-- 18 calls []
abbrev k18_0 : List Nat := [0, 1, 5, 14, 15]
abbrev a18_0 : List Nat := [5]
abbrev e18_0 (v0 v1 v5 v14 v15 : AV) : Env := [v0, v1, .dead, .dead, .dead, v5, .dead, .dead, .dead, .dead, .dead, .dead, .dead, .dead, v14, v15, .dead, .dead, .dead, .dead, .dead, .dead, .dead, .dead, .dead, .dead, .dead, .dead, .dead, .dead, .dead]
abbrev x18_0 (v5 : AV) : Env := [.dead, .dead, .dead, .dead, .dead, v5, .dead, .dead, .dead, .dead, .dead, .dead, .dead, .dead, .dead, .dead, .dead, .dead, .dead, .dead, .dead, .dead, .dead, .dead, .dead, .dead, .dead, .dead, .dead, .dead, .dead]
def s18_b0 : SCode :=
  .seq (
    .region [
      ⟨some 16, none, [], .p (.bin .lss (.t 15) (.t 14))⟩]) (
  .seq (
    .cond (.t 16) (
      .skip) (
      .exit 0)) (
  .seq (
    .block 1 (
      .seq (
        .region [
          ⟨some 17, none, [], .p (.mv (.t 15))⟩,
          ⟨some 6, none, [], .p (.mv (.t 17))⟩]) (
      .region [
        ⟨some 18, none, [], .p (.mv (.t 5))⟩,
        ⟨some 19, none, [], .p (.mv (.t 6))⟩,
        ⟨some 20, none, [], .p (.mv (.t 0))⟩,
        ⟨some 21, none, [], .p (.mv (.t 6))⟩,
        ⟨some 22, none, [], .p (.idxStr (.t 20) (.t 21))⟩,
        ⟨some 23, none, [], .p (.mv (.t 1))⟩,
        ⟨some 24, none, [], .p (.mv (.t 6))⟩,
        ⟨some 25, none, [], .p (.idxStr (.t 23) (.t 24))⟩,
        ⟨some 26, none, [], .p (.bin .xor (.t 22) (.t 25))⟩,
        ⟨some 27, none, [], .p (.iaddrS 1 (.t 18) (.t 19))⟩,
        ⟨none, none, [], .w (.store1 (.t 27) (.t 26))⟩]))) (
  .region [
    ⟨some 28, none, [], .p (.bin .add (.t 15) (.c (.int .i64 1)))⟩,
    ⟨some 15, none, [], .p (.mv (.t 28))⟩])))

def s18 : SFunc := ⟨
  .seq (
    .region [
      ⟨some 4, none, [], .p (.mv (.c (.str [])))⟩]) (
  .seq (
    .region [
      ⟨some 7, none, [], .p (.mv (.t 0))⟩,
      ⟨some 8, none, [], .p (.lenV false (.t 7))⟩,
      ⟨some 9, none, [], .p (.mv (.t 1))⟩,
      ⟨some 10, none, [], .p (.lenV false (.t 9))⟩,
      ⟨some 11, none, [], .p (.minmax false (.t 8) (.t 10))⟩,
      ⟨some 12, none, [], .a 4020 (.mkSlice 1 1 [byteAV 0] (.t 11) (.t 11))⟩,
      ⟨some 5, none, [], .p (.mv (.t 12))⟩]) (
  .seq (
    .seq (
      .region [
        ⟨some 13, none, [], .p (.mv (.t 5))⟩,
        ⟨some 14, none, [], .p (.lenV true (.t 13))⟩,
        ⟨some 15, none, [], .p (.mv (.c (.int .i64 0)))⟩]) (
    .block 0 (
      .loop k18_0 a18_0 s18_b0))) (
  .seq (
    .region [
      ⟨some 29, none, [], .p (.mv (.t 5))⟩,
      ⟨some 30, none, [], .r (.toStr (.t 29))⟩,
      ⟨some 4, none, [], .p (.mv (.t 30))⟩]) (
  .ret)))),
  31, [Sum.inl 4]⟩

theorem c18 : cFunc Try.prog quiet Try.f18 [[0, 1, 5, 14, 15], [5]] = some s18 := by kernel_rfl

-- 19 calls []
def s19 : SFunc := ⟨
  .seq (
    .region [
      ⟨some 4, none, [], .p (.mv (.c (u32 0#32)))⟩]) (
  .seq (
    .region [
      ⟨some 6, none, [], .p (.mv (.t 1))⟩,
      ⟨some 7, none, [], .p (.conv .u64 (.t 6))⟩,
      ⟨some 8, none, [], .p (.bin .rem (.t 7) (.c (u64 32#64)))⟩,
      ⟨some 5, none, [], .p (.mv (.t 8))⟩]) (
  .seq (
    .region [
      ⟨some 9, none, [], .p (.mv (.t 0))⟩,
      ⟨some 10, none, [], .p (.mv (.t 5))⟩,
      ⟨some 11, none, [], .p (.bin .shl (.t 9) (.t 10))⟩,
      ⟨some 12, none, [], .p (.mv (.t 0))⟩,
      ⟨some 13, none, [], .p (.mv (.t 5))⟩,
      ⟨some 14, none, [], .p (.bin .sub (.c (u64 32#64)) (.t 13))⟩,
      ⟨some 15, none, [], .p (.bin .shr (.t 12) (.t 14))⟩,
      ⟨some 16, none, [], .p (.bin .or (.t 11) (.t 15))⟩,
      ⟨some 4, none, [], .p (.mv (.t 16))⟩]) (
  .ret))),
  17, [Sum.inl 4]⟩

theorem c19 : cFunc Try.prog quiet Try.f19 [] = some s19 := by kernel_rfl

-- 20 calls []
abbrev k20_0 : List Nat := [0, 5, 6]
abbrev a20_0 : List Nat := [0]
abbrev e20_0 (v0 v5 v6 : AV) : Env := [v0, .dead, .dead, .dead, .dead, v5, v6, .dead, .dead, .dead, .dead, .dead, .dead, .dead, .dead, .dead, .dead, .dead, .dead, .dead, .dead, .dead, .dead, .dead, .dead, .dead]
abbrev x20_0 (v0 : AV) : Env := [v0, .dead, .dead, .dead, .dead, .dead, .dead, .dead, .dead, .dead, .dead, .dead, .dead, .dead, .dead, .dead, .dead, .dead, .dead, .dead, .dead, .dead, .dead, .dead, .dead, .dead]
def s20_b0 : SCode :=
  .seq (
    .seq (
      .region [
        ⟨some 14, none, [], .p (.mv (.t 6))⟩,
        ⟨some 15, none, [], .p (.mv (.t 5))⟩,
        ⟨some 16, none, [], .p (.bin .lss (.t 14) (.t 15))⟩]) (
    .cond (.t 16) (
      .skip) (
      .exit 0))) (
  .seq (
    .block 1 (
      .seq (
        .region [
          ⟨some 19, none, [], .p (.mv (.t 0))⟩,
          ⟨some 20, none, [], .p (.bin .quo (.t 19) (.c (u32 2147483648#32)))⟩,
          ⟨some 7, none, [], .p (.mv (.t 20))⟩]) (
      .region [
        ⟨some 21, none, [], .p (.mv (.t 0))⟩,
        ⟨some 22, none, [], .p (.bin .mul (.t 21) (.c (u32 2#32)))⟩,
        ⟨some 23, none, [], .p (.mv (.t 7))⟩,
        ⟨some 24, none, [], .p (.bin .add (.t 22) (.t 23))⟩,
        ⟨some 0, none, [], .p (.mv (.t 24))⟩]))) (
  .region [
    ⟨some 17, none, [], .p (.mv (.t 6))⟩,
    ⟨some 18, none, [], .p (.bin .add (.t 17) (.c (.int .i64 1)))⟩,
    ⟨some 6, none, [], .p (.mv (.t 18))⟩]))

def s20 : SFunc := ⟨
  .seq (
    .region [
      ⟨some 4, none, [], .p (.mv (.c (u32 0#32)))⟩]) (
  .seq (
    .region [
      ⟨some 8, none, [], .p (.mv (.t 1))⟩,
      ⟨some 9, none, [], .p (.bin .rem (.t 8) (.c (.int .i64 32)))⟩,
      ⟨some 5, none, [], .p (.mv (.t 9))⟩]) (
  .seq (
    .seq (
      .region [
        ⟨some 10, none, [], .p (.mv (.t 5))⟩,
        ⟨some 11, none, [], .p (.bin .lss (.t 10) (.c (.int .i64 0)))⟩]) (
    .cond (.t 11) (
      .region [
        ⟨some 12, none, [], .p (.mv (.t 5))⟩,
        ⟨some 13, none, [], .p (.bin .add (.t 12) (.c (.int .i64 32)))⟩,
        ⟨some 5, none, [], .p (.mv (.t 13))⟩]) (
      .skip))) (
  .seq (
    .seq (
      .region [
        ⟨some 6, none, [], .p (.mv (.c (.int .i64 0)))⟩]) (
    .block 0 (
      .loop k20_0 a20_0 s20_b0))) (
  .seq (
    .region [
      ⟨some 25, none, [], .p (.mv (.t 0))⟩,
      ⟨some 4, none, [], .p (.mv (.t 25))⟩]) (
  .ret))))),
  26, [Sum.inl 4]⟩

theorem c20 : cFunc Try.prog quiet Try.f20 [[0, 5, 6], [0]] = some s20 := by kernel_rfl

-- 21 calls []
def s21 : SFunc := ⟨
  .seq (
    .region [
      ⟨some 4, none, [], .p (.mv (.c (.bool false)))⟩]) (
  .seq (
    .region [
      ⟨some 5, none, [], .p (.mv (.t 0))⟩,
      ⟨some 6, none, [], .p (.lenV false (.t 5))⟩,
      ⟨some 7, none, [], .p (.bin .eql (.t 6) (.c (.int .i64 32)))⟩,
      ⟨some 8, none, [], .p (.mv (.t 7))⟩,
      ⟨some 9, some (8, true), [], .p (.mv (.t 1))⟩,
      ⟨some 10, some (8, true), [], .p (.lenV false (.t 9))⟩,
      ⟨some 11, some (8, true), [], .p (.bin .eql (.t 10) (.c (.int .i64 12)))⟩,
      ⟨some 12, none, [], .p (.pick (.t 8) (.t 11) (.c (.bool false)))⟩,
      ⟨some 4, none, [], .p (.mv (.t 12))⟩]) (
  .ret)),
  13, [Sum.inl 4]⟩

theorem c21 : cFunc Try.prog quiet Try.f21 [] = some s21 := by kernel_rfl

-- 22 calls [27, 28, 29]
abbrev k22_3 : List Nat := [11, 12, 69]
abbrev a22_3 : List Nat := [12]
abbrev e22_3 (v11 v12 v69 : AV) : Env := [.dead, .dead, .dead, .dead, .dead, .dead, .dead, .dead, .dead, .dead, .dead, v11, v12, .dead, .dead, .dead, .dead, .dead, .dead, .dead, .dead, .dead, .dead, .dead, .dead, .dead, .dead, .dead, .dead, .dead, .dead, .dead, .dead, .dead, .dead, .dead, .dead, .dead, .dead, .dead, .dead, .dead, .dead, .dead, .dead, .dead, .dead, .dead, .dead, .dead, .dead, .dead, .dead, .dead, .dead, .dead, .dead, .dead, .dead, .dead, .dead, .dead, .dead, .dead, .dead, .dead, .dead, .dead, .dead, v69, .dead, .dead, .dead, .dead, .dead, .dead, .dead, .dead, .dead, .dead, .dead, .dead, .dead]
abbrev x22_3 (v12 : AV) : Env := [.dead, .dead, .dead, .dead, .dead, .dead, .dead, .dead, .dead, .dead, .dead, .dead, v12, .dead, .dead, .dead, .dead, .dead, .dead, .dead, .dead, .dead, .dead, .dead, .dead, .dead, .dead, .dead, .dead, .dead, .dead, .dead, .dead, .dead, .dead, .dead, .dead, .dead, .dead, .dead, .dead, .dead, .dead, .dead, .dead, .dead, .dead, .dead, .dead, .dead, .dead, .dead, .dead, .dead, .dead, .dead, .dead, .dead, .dead, .dead, .dead, .dead, .dead, .dead, .dead, .dead, .dead, .dead, .dead, .dead, .dead, .dead, .dead, .dead, .dead, .dead, .dead, .dead, .dead, .dead, .dead, .dead, .dead]
def s22_b3 : SCode :=
  .seq (
    .region [
      ⟨some 70, none, [], .p (.bin .lss (.t 69) (.c (.int .i64 16)))⟩]) (
  .seq (
    .cond (.t 70) (
      .skip) (
      .exit 6)) (
  .seq (
    .block 7 (
      .seq (
        .region [
          ⟨some 71, none, [], .p (.mv (.t 69))⟩,
          ⟨some 15, none, [], .p (.mv (.t 71))⟩]) (
      .region [
        ⟨some 72, none, [], .p (.mv (.t 15))⟩,
        ⟨some 73, none, [], .p (.iaddrA 16 1 (.t 12) (.t 72))⟩,
        ⟨some 74, none, [], .r (.load1 (.t 73))⟩,
        ⟨some 75, none, [], .p (.mv (.t 15))⟩,
        ⟨some 76, none, [], .p (.iaddrA 16 1 (.t 11) (.t 75))⟩,
        ⟨some 77, none, [], .r (.load1 (.t 76))⟩,
        ⟨some 78, none, [], .p (.bin .add (.t 74) (.t 77))⟩,
        ⟨some 79, none, [], .p (.iaddrA 16 1 (.t 12) (.t 72))⟩,
        ⟨none, none, [], .w (.store1 (.t 79) (.t 78))⟩]))) (
  .region [
    ⟨some 80, none, [], .p (.bin .add (.t 69) (.c (.int .i64 1)))⟩,
    ⟨some 69, none, [], .p (.mv (.t 80))⟩])))

abbrev k22_2 : List Nat := [11, 12, 36, 50]
abbrev a22_2 : List Nat := [11, 12, 36]
abbrev e22_2 (v11 v12 v36 v50 : AV) : Env := [.dead, .dead, .dead, .dead, .dead, .dead, .dead, .dead, .dead, .dead, .dead, v11, v12, .dead, .dead, .dead, .dead, .dead, .dead, .dead, .dead, .dead, .dead, .dead, .dead, .dead, .dead, .dead, .dead, .dead, .dead, .dead, .dead, .dead, .dead, .dead, v36, .dead, .dead, .dead, .dead, .dead, .dead, .dead, .dead, .dead, .dead, .dead, .dead, .dead, v50, .dead, .dead, .dead, .dead, .dead, .dead, .dead, .dead, .dead, .dead, .dead, .dead, .dead, .dead, .dead, .dead, .dead, .dead, .dead, .dead, .dead, .dead, .dead, .dead, .dead, .dead, .dead, .dead, .dead, .dead, .dead, .dead]
abbrev x22_2 (v11 v12 v36 : AV) : Env := [.dead, .dead, .dead, .dead, .dead, .dead, .dead, .dead, .dead, .dead, .dead, v11, v12, .dead, .dead, .dead, .dead, .dead, .dead, .dead, .dead, .dead, .dead, .dead, .dead, .dead, .dead, .dead, .dead, .dead, .dead, .dead, .dead, .dead, .dead, .dead, v36, .dead, .dead, .dead, .dead, .dead, .dead, .dead, .dead, .dead, .dead, .dead, .dead, .dead, .dead, .dead, .dead, .dead, .dead, .dead, .dead, .dead, .dead, .dead, .dead, .dead, .dead, .dead, .dead, .dead, .dead, .dead, .dead, .dead, .dead, .dead, .dead, .dead, .dead, .dead, .dead, .dead, .dead, .dead, .dead, .dead, .dead]
def s22_b2 : SCode :=
  .seq (
    .region [
      ⟨some 51, none, [], .p (.bin .lss (.t 50) (.c (.int .i64 4)))⟩]) (
  .seq (
    .cond (.t 51) (
      .skip) (
      .exit 4)) (
  .seq (
    .block 5 (
      .seq (
        .region [
          ⟨some 52, none, [], .p (.mv (.t 50))⟩,
          ⟨some 14, none, [], .p (.mv (.t 52))⟩]) (
      .region [
        ⟨some 53, none, [], .p (.mv (.t 14))⟩,
        ⟨some 54, none, [], .p (.mv (.t 14))⟩,
        ⟨some 55, none, [], .p (.bin .add (.t 54) (.c (.int .i64 1)))⟩,
        ⟨some 56, none, [], .p (.bin .rem (.t 55) (.c (.int .i64 4)))⟩,
        ⟨some 57, none, [], .p (.bin .add (.c (.int .i64 4)) (.t 56))⟩,
        ⟨some 58, none, [], .p (.mv (.t 14))⟩,
        ⟨some 59, none, [], .p (.bin .add (.t 58) (.c (.int .i64 2)))⟩,
        ⟨some 60, none, [], .p (.bin .rem (.t 59) (.c (.int .i64 4)))⟩,
        ⟨some 61, none, [], .p (.bin .add (.c (.int .i64 8)) (.t 60))⟩,
        ⟨some 62, none, [], .p (.mv (.t 14))⟩,
        ⟨some 63, none, [], .p (.bin .add (.t 62) (.c (.int .i64 3)))⟩,
        ⟨some 64, none, [], .p (.bin .rem (.t 63) (.c (.int .i64 4)))⟩,
        ⟨some 65, none, [], .p (.bin .add (.c (.int .i64 12)) (.t 64))⟩,
        ⟨some 66, none, [], .call 64052 4 false (.f 28) [.t 12, .t 53, .t 57, .t 61, .t 65]⟩]))) (
  .region [
    ⟨some 67, none, [], .p (.bin .add (.t 50) (.c (.int .i64 1)))⟩,
    ⟨some 50, none, [], .p (.mv (.t 67))⟩])))

abbrev k22_1 : List Nat := [11, 12, 36, 38]
abbrev a22_1 : List Nat := [11, 12, 36]
abbrev e22_1 (v11 v12 v36 v38 : AV) : Env := [.dead, .dead, .dead, .dead, .dead, .dead, .dead, .dead, .dead, .dead, .dead, v11, v12, .dead, .dead, .dead, .dead, .dead, .dead, .dead, .dead, .dead, .dead, .dead, .dead, .dead, .dead, .dead, .dead, .dead, .dead, .dead, .dead, .dead, .dead, .dead, v36, .dead, v38, .dead, .dead, .dead, .dead, .dead, .dead, .dead, .dead, .dead, .dead, .dead, .dead, .dead, .dead, .dead, .dead, .dead, .dead, .dead, .dead, .dead, .dead, .dead, .dead, .dead, .dead, .dead, .dead, .dead, .dead, .dead, .dead, .dead, .dead, .dead, .dead, .dead, .dead, .dead, .dead, .dead, .dead, .dead, .dead]
abbrev x22_1 (v11 v12 v36 : AV) : Env := [.dead, .dead, .dead, .dead, .dead, .dead, .dead, .dead, .dead, .dead, .dead, v11, v12, .dead, .dead, .dead, .dead, .dead, .dead, .dead, .dead, .dead, .dead, .dead, .dead, .dead, .dead, .dead, .dead, .dead, .dead, .dead, .dead, .dead, .dead, .dead, v36, .dead, .dead, .dead, .dead, .dead, .dead, .dead, .dead, .dead, .dead, .dead, .dead, .dead, .dead, .dead, .dead, .dead, .dead, .dead, .dead, .dead, .dead, .dead, .dead, .dead, .dead, .dead, .dead, .dead, .dead, .dead, .dead, .dead, .dead, .dead, .dead, .dead, .dead, .dead, .dead, .dead, .dead, .dead, .dead, .dead, .dead]
def s22_b1 : SCode :=
  .seq (
    .region [
      ⟨some 39, none, [], .p (.bin .lss (.t 38) (.c (.int .i64 4)))⟩]) (
  .seq (
    .cond (.t 39) (
      .skip) (
      .exit 2)) (
  .seq (
    .block 3 (
      .seq (
        .region [
          ⟨some 40, none, [], .p (.mv (.t 38))⟩,
          ⟨some 13, none, [], .p (.mv (.t 40))⟩]) (
      .region [
        ⟨some 41, none, [], .p (.mv (.t 13))⟩,
        ⟨some 42, none, [], .p (.mv (.t 13))⟩,
        ⟨some 43, none, [], .p (.bin .add (.t 42) (.c (.int .i64 4)))⟩,
        ⟨some 44, none, [], .p (.mv (.t 13))⟩,
        ⟨some 45, none, [], .p (.bin .add (.t 44) (.c (.int .i64 8)))⟩,
        ⟨some 46, none, [], .p (.mv (.t 13))⟩,
        ⟨some 47, none, [], .p (.bin .add (.t 46) (.c (.int .i64 12)))⟩,
        ⟨some 48, none, [], .call 44028 4 false (.f 28) [.t 12, .t 41, .t 43, .t 45, .t 47]⟩]))) (
  .region [
    ⟨some 49, none, [], .p (.bin .add (.t 38) (.c (.int .i64 1)))⟩,
    ⟨some 38, none, [], .p (.mv (.t 49))⟩])))

abbrev k22_0 : List Nat := [11, 12, 36]
abbrev a22_0 : List Nat := [11, 12]
abbrev e22_0 (v11 v12 v36 : AV) : Env := [.dead, .dead, .dead, .dead, .dead, .dead, .dead, .dead, .dead, .dead, .dead, v11, v12, .dead, .dead, .dead, .dead, .dead, .dead, .dead, .dead, .dead, .dead, .dead, .dead, .dead, .dead, .dead, .dead, .dead, .dead, .dead, .dead, .dead, .dead, .dead, v36, .dead, .dead, .dead, .dead, .dead, .dead, .dead, .dead, .dead, .dead, .dead, .dead, .dead, .dead, .dead, .dead, .dead, .dead, .dead, .dead, .dead, .dead, .dead, .dead, .dead, .dead, .dead, .dead, .dead, .dead, .dead, .dead, .dead, .dead, .dead, .dead, .dead, .dead, .dead, .dead, .dead, .dead, .dead, .dead, .dead, .dead]
abbrev x22_0 (v11 v12 : AV) : Env := [.dead, .dead, .dead, .dead, .dead, .dead, .dead, .dead, .dead, .dead, .dead, v11, v12, .dead, .dead, .dead, .dead, .dead, .dead, .dead, .dead, .dead, .dead, .dead, .dead, .dead, .dead, .dead, .dead, .dead, .dead, .dead, .dead, .dead, .dead, .dead, .dead, .dead, .dead, .dead, .dead, .dead, .dead, .dead, .dead, .dead, .dead, .dead, .dead, .dead, .dead, .dead, .dead, .dead, .dead, .dead, .dead, .dead, .dead, .dead, .dead, .dead, .dead, .dead, .dead, .dead, .dead, .dead, .dead, .dead, .dead, .dead, .dead, .dead, .dead, .dead, .dead, .dead, .dead, .dead, .dead, .dead, .dead]
def s22_b0 : SCode :=
  .seq (
    .region [
      ⟨some 37, none, [], .p (.bin .lss (.t 36) (.c (.int .i64 10)))⟩]) (
  .seq (
    .cond (.t 37) (
      .skip) (
      .exit 0)) (
  .seq (
    .block 1 (
      .seq (
        .seq (
          .region [
            ⟨some 38, none, [], .p (.mv (.c (.int .i64 0)))⟩]) (
        .block 2 (
          .loop k22_1 a22_1 s22_b1))) (
      .seq (
        .region [
          ⟨some 50, none, [], .p (.mv (.c (.int .i64 0)))⟩]) (
      .block 4 (
        .loop k22_2 a22_2 s22_b2))))) (
  .region [
    ⟨some 68, none, [], .p (.bin .add (.t 36) (.c (.int .i64 1)))⟩,
    ⟨some 36, none, [], .p (.mv (.t 68))⟩])))

def s22 : SFunc := ⟨
  .seq (
    .region [
      ⟨some 6, none, [], .p (.mv (.c (.str [])))⟩]) (
  .seq (
    .region [
      ⟨some 17, none, [], .p (.mv (.t 0))⟩,
      ⟨some 18, none, [], .p (.bin .add (.c (.str [101, 120, 112, 97, 110, 100, 32, 51, 50, 45, 98, 121, 116, 101, 32, 107])) (.t 17))⟩,
      ⟨some 19, none, [], .call 4008 4 true (.f 27) [.t 18]⟩,
      ⟨some 16, none, [], .p (.mv (.t 19))⟩,
      ⟨some 20, none, [], .p (.extract (.t 16) 0)⟩,
      ⟨some 21, none, [], .p (.extract (.t 16) 1)⟩,
      ⟨some 7, none, [], .p (.mv (.t 20))⟩,
      ⟨some 8, none, [], .p (.mv (.t 21))⟩]) (
  .seq (
    .region [
      ⟨some 23, none, [], .p (.mv (.t 1))⟩,
      ⟨some 24, none, [], .call 8004 4 true (.f 27) [.t 23]⟩,
      ⟨some 22, none, [], .p (.mv (.t 24))⟩,
      ⟨some 25, none, [], .p (.extract (.t 22) 0)⟩,
      ⟨some 26, none, [], .p (.extract (.t 22) 1)⟩,
      ⟨some 9, none, [], .p (.mv (.t 25))⟩,
      ⟨some 10, none, [], .p (.mv (.t 26))⟩]) (
  .seq (
    .region [
      ⟨some 11, none, [], .a 12000 (.alloc [u32 0#32, u32 0#32, u32 0#32, u32 0#32, u32 0#32, u32 0#32, u32 0#32, u32 0#32, u32 0#32, u32 0#32, u32 0#32, u32 0#32, u32 0#32, u32 0#32, u32 0#32, u32 0#32])⟩]) (
  .seq (
    .region [
      ⟨some 27, none, [], .p (.slcA 16 1 (.t 11) none none)⟩,
      ⟨some 28, none, [], .p (.mv (.t 7))⟩,
      ⟨some 29, none, [], .p (.mv (.t 2))⟩,
      ⟨some 30, none, [], .a 16012 (.buildS 1 1 [u32 0#32] [(0, 1, .t 29)])⟩,
      ⟨some 31, none, [], .w (.append 16016 1 4 (.t 28) (.t 30))⟩,
      ⟨some 32, none, [], .p (.mv (.t 9))⟩,
      ⟨some 33, none, [], .w (.append 16024 1 4 (.t 31) (.t 32))⟩,
      ⟨some 34, none, [], .w (.copy 1 (.t 27) (.t 33))⟩]) (
  .seq (
    .region [
      ⟨some 35, none, [], .r (.loadN 16 (.t 11))⟩,
      ⟨some 12, none, [], .a 20004 (.alloc [u32 0#32, u32 0#32, u32 0#32, u32 0#32, u32 0#32, u32 0#32, u32 0#32, u32 0#32, u32 0#32, u32 0#32, u32 0#32, u32 0#32, u32 0#32, u32 0#32, u32 0#32, u32 0#32])⟩,
      ⟨none, none, [], .w (.storeN 16 (.t 12) (.t 35))⟩]) (
  .seq (
    .seq (
      .region [
        ⟨some 36, none, [], .p (.mv (.c (.int .i64 0)))⟩]) (
    .block 0 (
      .loop k22_0 a22_0 s22_b0))) (
  .seq (
    .seq (
      .region [
        ⟨some 69, none, [], .p (.mv (.c (.int .i64 0)))⟩]) (
    .block 6 (
      .loop k22_3 a22_3 s22_b3))) (
  .seq (
    .region [
      ⟨some 81, none, [], .p (.slcA 16 1 (.t 12) none none)⟩,
      ⟨some 82, none, [], .call 96004 4 true (.f 29) [.t 81]⟩,
      ⟨some 6, none, [], .p (.mv (.t 82))⟩]) (
  .ret))))))))),
  83, [Sum.inl 6]⟩

theorem c22 : cFunc Try.prog quiet Try.f22 [[11, 12, 36], [11, 12], [11, 12, 36, 38], [11, 12, 36], [11, 12, 36, 50], [11, 12, 36], [11, 12, 69], [12]] = some s22 := by kernel_rfl

-- 23 calls []
abbrev k23_1 : List Nat := [0, 1, 6, 7, 8, 9]
abbrev a23_1 : List Nat := [0, 1, 6, 7, 8]
abbrev e23_1 (v0 v1 v6 v7 v8 v9 : AV) : Env := [v0, v1, .dead, .dead, .dead, .dead, v6, v7, v8, v9, .dead, .dead, .dead, .dead, .dead, .dead, .dead, .dead, .dead, .dead, .dead, .dead, .dead, .dead, .dead, .dead, .dead, .dead, .dead, .dead, .dead, .dead, .dead, .dead, .dead, .dead, .dead, .dead, .dead, .dead, .dead, .dead, .dead, .dead, .dead]
abbrev x23_1 (v0 v1 v6 v7 v8 : AV) : Env := [v0, v1, .dead, .dead, .dead, .dead, v6, v7, v8, .dead, .dead, .dead, .dead, .dead, .dead, .dead, .dead, .dead, .dead, .dead, .dead, .dead, .dead, .dead, .dead, .dead, .dead, .dead, .dead, .dead, .dead, .dead, .dead, .dead, .dead, .dead, .dead, .dead, .dead, .dead, .dead, .dead, .dead, .dead, .dead]
def s23_b1 : SCode :=
  .seq (
    .seq (
      .region [
        ⟨some 21, none, [], .p (.mv (.t 9))⟩,
        ⟨some 22, none, [], .p (.bin .lss (.t 21) (.c (.int .i64 4)))⟩]) (
    .cond (.t 22) (
      .skip) (
      .exit 2))) (
  .seq (
    .block 3 (
      .seq (
        .region [
          ⟨some 25, none, [], .p (.mv (.t 7))⟩,
          ⟨some 26, none, [], .p (.bin .add (.t 25) (.c (.int .i64 3)))⟩,
          ⟨some 27, none, [], .p (.mv (.t 9))⟩,
          ⟨some 28, none, [], .p (.bin .sub (.t 26) (.t 27))⟩,
          ⟨some 10, none, [], .p (.mv (.t 28))⟩]) (
      .seq (
        .seq (
          .region [
            ⟨some 29, none, [], .p (.mv (.t 1))⟩]) (
        .cond (.t 29) (
          .region [
            ⟨some 30, none, [], .p (.mv (.t 7))⟩,
            ⟨some 31, none, [], .p (.mv (.t 9))⟩,
            ⟨some 32, none, [], .p (.bin .add (.t 30) (.t 31))⟩,
            ⟨some 10, none, [], .p (.mv (.t 32))⟩]) (
          .skip))) (
      .region [
        ⟨some 33, none, [], .p (.mv (.t 8))⟩,
        ⟨some 34, none, [], .p (.bin .mul (.c (u32 256#32)) (.t 33))⟩,
        ⟨some 35, none, [], .p (.mv (.t 0))⟩,
        ⟨some 36, none, [], .p (.mv (.t 10))⟩,
        ⟨some 37, none, [], .p (.idxStr (.t 35) (.t 36))⟩,
        ⟨some 38, none, [], .p (.conv .u32 (.t 37))⟩,
        ⟨some 39, none, [], .p (.bin .add (.t 34) (.t 38))⟩,
        ⟨some 8, none, [], .p (.mv (.t 39))⟩])))) (
  .region [
    ⟨some 23, none, [], .p (.mv (.t 9))⟩,
    ⟨some 24, none, [], .p (.bin .add (.t 23) (.c (.int .i64 1)))⟩,
    ⟨some 9, none, [], .p (.mv (.t 24))⟩]))

abbrev k23_0 : List Nat := [0, 1, 6, 7]
abbrev a23_0 : List Nat := [6]
abbrev e23_0 (v0 v1 v6 v7 : AV) : Env := [v0, v1, .dead, .dead, .dead, .dead, v6, v7, .dead, .dead, .dead, .dead, .dead, .dead, .dead, .dead, .dead, .dead, .dead, .dead, .dead, .dead, .dead, .dead, .dead, .dead, .dead, .dead, .dead, .dead, .dead, .dead, .dead, .dead, .dead, .dead, .dead, .dead, .dead, .dead, .dead, .dead, .dead, .dead, .dead]
abbrev x23_0 (v6 : AV) : Env := [.dead, .dead, .dead, .dead, .dead, .dead, v6, .dead, .dead, .dead, .dead, .dead, .dead, .dead, .dead, .dead, .dead, .dead, .dead, .dead, .dead, .dead, .dead, .dead, .dead, .dead, .dead, .dead, .dead, .dead, .dead, .dead, .dead, .dead, .dead, .dead, .dead, .dead, .dead, .dead, .dead, .dead, .dead, .dead, .dead]
def s23_b0 : SCode :=
  .seq (
    .seq (
      .region [
        ⟨some 15, none, [], .p (.mv (.t 7))⟩,
        ⟨some 16, none, [], .p (.mv (.t 0))⟩,
        ⟨some 17, none, [], .p (.lenV false (.t 16))⟩,
        ⟨some 18, none, [], .p (.bin .lss (.t 15) (.t 17))⟩]) (
    .cond (.t 18) (
      .skip) (
      .exit 0))) (
  .seq (
    .block 1 (
      .seq (
        .region [
          ⟨some 8, none, [], .p (.mv (.c (u32 0#32)))⟩]) (
      .seq (
        .seq (
          .region [
            ⟨some 9, none, [], .p (.mv (.c (.int .i64 0)))⟩]) (
        .block 2 (
          .loop k23_1 a23_1 s23_b1))) (
      .region [
        ⟨some 40, none, [], .p (.mv (.t 6))⟩,
        ⟨some 41, none, [], .p (.mv (.t 8))⟩,
        ⟨some 42, none, [], .a 60008 (.buildS 1 1 [u32 0#32] [(0, 1, .t 41)])⟩,
        ⟨some 43, none, [], .w (.append 60012 1 4 (.t 40) (.t 42))⟩,
        ⟨some 6, none, [], .p (.mv (.t 43))⟩])))) (
  .region [
    ⟨some 19, none, [], .p (.mv (.t 7))⟩,
    ⟨some 20, none, [], .p (.bin .add (.t 19) (.c (.int .i64 4)))⟩,
    ⟨some 7, none, [], .p (.mv (.t 20))⟩]))

def s23 : SFunc := ⟨
  .seq (
    .region [
      ⟨some 4, none, [], .p (.mv (.c (.slice none 0 0)))⟩,
      ⟨some 5, none, [], .p (.mv (.c (.int .i64 0)))⟩]) (
  .seq (
    .seq (
      .region [
        ⟨some 11, none, [], .p (.mv (.t 0))⟩,
        ⟨some 12, none, [], .p (.lenV false (.t 11))⟩,
        ⟨some 13, none, [], .p (.bin .rem (.t 12) (.c (.int .i64 4)))⟩,
        ⟨some 14, none, [], .p (.bin .neq (.t 13) (.c (.int .i64 0)))⟩]) (
    .cond (.t 14) (
      .seq (
        .region [
          ⟨some 4, none, [], .p (.mv (.c (.slice none 0 0)))⟩,
          ⟨some 5, none, [], .p (.mv (.c (.int .i64 7)))⟩]) (
      .ret)) (
      .skip))) (
  .seq (
    .region [
      ⟨some 6, none, [], .p (.mv (.c (.slice none 0 0)))⟩]) (
  .seq (
    .seq (
      .region [
        ⟨some 7, none, [], .p (.mv (.c (.int .i64 0)))⟩]) (
    .block 0 (
      .loop k23_0 a23_0 s23_b0))) (
  .seq (
    .region [
      ⟨some 44, none, [], .p (.mv (.t 6))⟩,
      ⟨some 4, none, [], .p (.mv (.t 44))⟩,
      ⟨some 5, none, [], .p (.mv (.c (.int .i64 0)))⟩]) (
  .ret))))),
  45, [Sum.inl 4, Sum.inl 5]⟩

theorem c23 : cFunc Try.prog quiet Try.f23 [[0, 1, 6, 7], [6], [0, 1, 6, 7, 8, 9], [0, 1, 6, 7, 8]] = some s23 := by kernel_rfl

-- 24 calls [12]
def s24 : SFunc := ⟨
  .seq (
    .region [
      ⟨some 5, none, [], .a 0 (.box (.t 0))⟩,
      ⟨some 10, none, [], .a 4 (.alloc [u32 0#32, u32 0#32, u32 0#32, u32 0#32, u32 0#32, u32 0#32, u32 0#32, u32 0#32, u32 0#32, u32 0#32, u32 0#32, u32 0#32, u32 0#32, u32 0#32, u32 0#32, u32 0#32])⟩]) (
  .seq (
    .region [
      ⟨some 12, none, [], .p (.mv (.t 1))⟩,
      ⟨some 13, none, [], .p (.iaddrA 16 1 (.t 5) (.t 12))⟩,
      ⟨some 14, none, [4052], .r (.load1 (.t 13))⟩,
      ⟨some 15, none, [], .p (.mv (.t 2))⟩,
      ⟨some 16, none, [], .p (.iaddrA 16 1 (.t 5) (.t 15))⟩,
      ⟨some 17, none, [4052], .r (.load1 (.t 16))⟩,
      ⟨some 18, none, [], .p (.mv (.t 3))⟩,
      ⟨some 19, none, [], .p (.iaddrA 16 1 (.t 5) (.t 18))⟩,
      ⟨some 20, none, [4052], .r (.load1 (.t 19))⟩,
      ⟨some 21, none, [], .p (.mv (.t 4))⟩,
      ⟨some 22, none, [], .p (.iaddrA 16 1 (.t 5) (.t 21))⟩,
      ⟨some 23, none, [4052], .r (.load1 (.t 22))⟩,
      ⟨some 24, none, [4052], .call 4048 4 true (.f 12) [.t 14, .t 17, .t 20, .t 23]⟩,
      ⟨some 11, none, [4048, 4049, 4050, 4051], .a 4052 (.alloc [u32 0#32, u32 0#32, u32 0#32, u32 0#32])⟩,
      ⟨none, none, [], .w (.storeN 4 (.t 11) (.t 24))⟩]) (
  .seq (
    .region [
      ⟨some 25, none, [], .p (.mv (.t 1))⟩,
      ⟨some 26, none, [], .p (.iaddrA 4 1 (.t 11) (.c (.int .i64 0)))⟩,
      ⟨some 27, none, [], .r (.load1 (.t 26))⟩,
      ⟨some 28, none, [], .p (.iaddrA 16 1 (.t 5) (.t 25))⟩,
      ⟨none, none, [], .w (.store1 (.t 28) (.t 27))⟩]) (
  .seq (
    .region [
      ⟨some 29, none, [], .p (.mv (.t 2))⟩,
      ⟨some 30, none, [], .p (.iaddrA 4 1 (.t 11) (.c (.int .i64 1)))⟩,
      ⟨some 31, none, [], .r (.load1 (.t 30))⟩,
      ⟨some 32, none, [], .p (.iaddrA 16 1 (.t 5) (.t 29))⟩,
      ⟨none, none, [], .w (.store1 (.t 32) (.t 31))⟩]) (
  .seq (
    .region [
      ⟨some 33, none, [], .p (.mv (.t 3))⟩,
      ⟨some 34, none, [], .p (.iaddrA 4 1 (.t 11) (.c (.int .i64 2)))⟩,
      ⟨some 35, none, [], .r (.load1 (.t 34))⟩,
      ⟨some 36, none, [], .p (.iaddrA 16 1 (.t 5) (.t 33))⟩,
      ⟨none, none, [], .w (.store1 (.t 36) (.t 35))⟩]) (
  .seq (
    .region [
      ⟨some 37, none, [], .p (.mv (.t 4))⟩,
      ⟨some 38, none, [], .p (.iaddrA 4 1 (.t 11) (.c (.int .i64 3)))⟩,
      ⟨some 39, none, [], .r (.load1 (.t 38))⟩,
      ⟨some 40, none, [], .p (.iaddrA 16 1 (.t 5) (.t 37))⟩,
      ⟨none, none, [], .w (.store1 (.t 40) (.t 39))⟩]) (
  .seq (
    .region [
      ⟨some 41, none, [], .r (.loadN 16 (.t 5))⟩,
      ⟨none, none, [], .w (.storeN 16 (.t 10) (.t 41))⟩]) (
  .ret))))))),
  42, [Sum.inr (10, 16, true)]⟩

theorem c24 : cFunc Try.prog quiet Try.f24 [] = some s24 := by kernel_rfl

-- 25 calls []
abbrev k25_2 : List Nat := [0, 1, 5, 6, 7, 11]
abbrev a25_2 : List Nat := [0, 1, 5, 6]
abbrev e25_2 (v0 v1 v5 v6 v7 v11 : AV) : Env := [v0, v1, .dead, .dead, .dead, v5, v6, v7, .dead, .dead, .dead, v11, .dead, .dead, .dead, .dead, .dead, .dead, .dead, .dead, .dead, .dead, .dead, .dead, .dead, .dead, .dead, .dead, .dead, .dead, .dead, .dead, .dead, .dead, .dead, .dead, .dead, .dead, .dead, .dead, .dead, .dead, .dead, .dead, .dead, .dead, .dead, .dead, .dead]
abbrev x25_2 (v0 v1 v5 v6 : AV) : Env := [v0, v1, .dead, .dead, .dead, v5, v6, .dead, .dead, .dead, .dead, .dead, .dead, .dead, .dead, .dead, .dead, .dead, .dead, .dead, .dead, .dead, .dead, .dead, .dead, .dead, .dead, .dead, .dead, .dead, .dead, .dead, .dead, .dead, .dead, .dead, .dead, .dead, .dead, .dead, .dead, .dead, .dead, .dead, .dead, .dead, .dead, .dead, .dead]
def s25_b2 : SCode :=
  .seq (
    .seq (
      .region [
        ⟨some 37, none, [], .p (.mv (.t 11))⟩,
        ⟨some 38, none, [], .p (.bin .lss (.t 37) (.c (.int .i64 4)))⟩]) (
    .cond (.t 38) (
      .skip) (
      .exit 4))) (
  .seq (
    .block 5 (
      .region [
        ⟨some 41, none, [], .p (.mv (.t 5))⟩,
        ⟨some 42, none, [], .p (.mv (.t 11))⟩,
        ⟨some 43, none, [], .p (.iaddrA 4 1 (.t 7) (.t 42))⟩,
        ⟨some 44, none, [], .r (.load1 (.t 43))⟩,
        ⟨some 45, none, [], .a 72016 (.buildS 1 1 [byteAV 0] [(0, 1, .t 44)])⟩,
        ⟨some 46, none, [], .w (.append 72020 1 1 (.t 41) (.t 45))⟩,
        ⟨some 5, none, [], .p (.mv (.t 46))⟩])) (
  .region [
    ⟨some 39, none, [], .p (.mv (.t 11))⟩,
    ⟨some 40, none, [], .p (.bin .add (.t 39) (.c (.int .i64 1)))⟩,
    ⟨some 11, none, [], .p (.mv (.t 40))⟩]))

abbrev k25_1 : List Nat := [0, 1, 5, 6, 7, 8, 9]
abbrev a25_1 : List Nat := [0, 1, 5, 6, 7]
abbrev e25_1 (v0 v1 v5 v6 v7 v8 v9 : AV) : Env := [v0, v1, .dead, .dead, .dead, v5, v6, v7, v8, v9, .dead, .dead, .dead, .dead, .dead, .dead, .dead, .dead, .dead, .dead, .dead, .dead, .dead, .dead, .dead, .dead, .dead, .dead, .dead, .dead, .dead, .dead, .dead, .dead, .dead, .dead, .dead, .dead, .dead, .dead, .dead, .dead, .dead, .dead, .dead, .dead, .dead, .dead, .dead]
abbrev x25_1 (v0 v1 v5 v6 v7 : AV) : Env := [v0, v1, .dead, .dead, .dead, v5, v6, v7, .dead, .dead, .dead, .dead, .dead, .dead, .dead, .dead, .dead, .dead, .dead, .dead, .dead, .dead, .dead, .dead, .dead, .dead, .dead, .dead, .dead, .dead, .dead, .dead, .dead, .dead, .dead, .dead, .dead, .dead, .dead, .dead, .dead, .dead, .dead, .dead, .dead, .dead, .dead, .dead, .dead]
def s25_b1 : SCode :=
  .seq (
    .seq (
      .region [
        ⟨some 22, none, [], .p (.mv (.t 9))⟩,
        ⟨some 23, none, [], .p (.bin .lss (.t 22) (.c (.int .i64 4)))⟩]) (
    .cond (.t 23) (
      .skip) (
      .exit 2))) (
  .seq (
    .block 3 (
      .seq (
        .region [
          ⟨some 26, none, [], .p (.mv (.t 9))⟩,
          ⟨some 10, none, [], .p (.mv (.t 26))⟩]) (
      .seq (
        .seq (
          .region [
            ⟨some 27, none, [], .p (.mv (.t 1))⟩]) (
        .cond (.t 27) (
          .region [
            ⟨some 28, none, [], .p (.mv (.t 9))⟩,
            ⟨some 29, none, [], .p (.bin .sub (.c (.int .i64 3)) (.t 28))⟩,
            ⟨some 10, none, [], .p (.mv (.t 29))⟩]) (
          .skip))) (
      .seq (
        .region [
          ⟨some 30, none, [], .p (.mv (.t 10))⟩,
          ⟨some 31, none, [], .p (.mv (.t 8))⟩,
          ⟨some 32, none, [], .p (.bin .rem (.t 31) (.c (u32 256#32)))⟩,
          ⟨some 33, none, [], .p (.conv .u8 (.t 32))⟩,
          ⟨some 34, none, [], .p (.iaddrA 4 1 (.t 7) (.t 30))⟩,
          ⟨none, none, [], .w (.store1 (.t 34) (.t 33))⟩]) (
      .region [
        ⟨some 35, none, [], .p (.mv (.t 8))⟩,
        ⟨some 36, none, [], .p (.bin .quo (.t 35) (.c (u32 256#32)))⟩,
        ⟨some 8, none, [], .p (.mv (.t 36))⟩]))))) (
  .region [
    ⟨some 24, none, [], .p (.mv (.t 9))⟩,
    ⟨some 25, none, [], .p (.bin .add (.t 24) (.c (.int .i64 1)))⟩,
    ⟨some 9, none, [], .p (.mv (.t 25))⟩]))

abbrev k25_0 : List Nat := [0, 1, 5, 6]
abbrev a25_0 : List Nat := [5]
abbrev e25_0 (v0 v1 v5 v6 : AV) : Env := [v0, v1, .dead, .dead, .dead, v5, v6, .dead, .dead, .dead, .dead, .dead, .dead, .dead, .dead, .dead, .dead, .dead, .dead, .dead, .dead, .dead, .dead, .dead, .dead, .dead, .dead, .dead, .dead, .dead, .dead, .dead, .dead, .dead, .dead, .dead, .dead, .dead, .dead, .dead, .dead, .dead, .dead, .dead, .dead, .dead, .dead, .dead, .dead]
abbrev x25_0 (v5 : AV) : Env := [.dead, .dead, .dead, .dead, .dead, v5, .dead, .dead, .dead, .dead, .dead, .dead, .dead, .dead, .dead, .dead, .dead, .dead, .dead, .dead, .dead, .dead, .dead, .dead, .dead, .dead, .dead, .dead, .dead, .dead, .dead, .dead, .dead, .dead, .dead, .dead, .dead, .dead, .dead, .dead, .dead, .dead, .dead, .dead, .dead, .dead, .dead, .dead, .dead]
def s25_b0 : SCode :=
  .seq (
    .seq (
      .region [
        ⟨some 12, none, [], .p (.mv (.t 6))⟩,
        ⟨some 13, none, [], .p (.mv (.t 0))⟩,
        ⟨some 14, none, [], .p (.lenV true (.t 13))⟩,
        ⟨some 15, none, [], .p (.bin .lss (.t 12) (.t 14))⟩]) (
    .cond (.t 15) (
      .skip) (
      .exit 0))) (
  .seq (
    .block 1 (
      .seq (
        .region [
          ⟨some 7, none, [], .a 20000 (.alloc [byteAV 0, byteAV 0, byteAV 0, byteAV 0])⟩]) (
      .seq (
        .region [
          ⟨some 18, none, [], .p (.mv (.t 0))⟩,
          ⟨some 19, none, [], .p (.mv (.t 6))⟩,
          ⟨some 20, none, [], .p (.iaddrS 1 (.t 18) (.t 19))⟩,
          ⟨some 21, none, [], .r (.load1 (.t 20))⟩,
          ⟨some 8, none, [], .p (.mv (.t 21))⟩]) (
      .seq (
        .seq (
          .region [
            ⟨some 9, none, [], .p (.mv (.c (.int .i64 0)))⟩]) (
        .block 2 (
          .loop k25_1 a25_1 s25_b1))) (
      .seq (
        .region [
          ⟨some 11, none, [], .p (.mv (.c (.int .i64 0)))⟩]) (
      .block 4 (
        .loop k25_2 a25_2 s25_b2))))))) (
  .region [
    ⟨some 16, none, [], .p (.mv (.t 6))⟩,
    ⟨some 17, none, [], .p (.bin .add (.t 16) (.c (.int .i64 1)))⟩,
    ⟨some 6, none, [], .p (.mv (.t 17))⟩]))

def s25 : SFunc := ⟨
  .seq (
    .region [
      ⟨some 4, none, [], .p (.mv (.c (.str [])))⟩]) (
  .seq (
    .region [
      ⟨some 5, none, [], .p (.mv (.c (.slice none 0 0)))⟩]) (
  .seq (
    .seq (
      .region [
        ⟨some 6, none, [], .p (.mv (.c (.int .i64 0)))⟩]) (
    .block 0 (
      .loop k25_0 a25_0 s25_b0))) (
  .seq (
    .region [
      ⟨some 47, none, [], .p (.mv (.t 5))⟩,
      ⟨some 48, none, [], .r (.toStr (.t 47))⟩,
      ⟨some 4, none, [], .p (.mv (.t 48))⟩]) (
  .ret)))),
  49, [Sum.inl 4]⟩

theorem c25 : cFunc Try.prog quiet Try.f25 [[0, 1, 5, 6], [5], [0, 1, 5, 6, 7, 8, 9], [0, 1, 5, 6, 7], [0, 1, 5, 6, 7, 11], [0, 1, 5, 6]] = some s25 := by kernel_rfl

-- 26 calls [30]
abbrev k26_0 : List Nat := [0, 1, 5, 6]
abbrev a26_0 : List Nat := [5]
abbrev e26_0 (v0 v1 v5 v6 : AV) : Env := [v0, v1, .dead, .dead, .dead, v5, v6, .dead, .dead, .dead, .dead, .dead, .dead, .dead, .dead, .dead, .dead, .dead, .dead, .dead, .dead, .dead, .dead, .dead, .dead, .dead, .dead, .dead, .dead, .dead, .dead, .dead, .dead]
abbrev x26_0 (v5 : AV) : Env := [.dead, .dead, .dead, .dead, .dead, v5, .dead, .dead, .dead, .dead, .dead, .dead, .dead, .dead, .dead, .dead, .dead, .dead, .dead, .dead, .dead, .dead, .dead, .dead, .dead, .dead, .dead, .dead, .dead, .dead, .dead, .dead, .dead]
def s26_b0 : SCode :=
  .seq (
    .seq (
      .region [
        ⟨some 8, none, [], .p (.mv (.t 6))⟩,
        ⟨some 9, none, [], .p (.mv (.t 0))⟩,
        ⟨some 10, none, [], .p (.lenV false (.t 9))⟩,
        ⟨some 11, none, [], .p (.bin .lss (.t 8) (.t 10))⟩,
        ⟨some 12, none, [], .p (.mv (.t 11))⟩,
        ⟨some 13, some (12, true), [], .p (.mv (.t 6))⟩,
        ⟨some 14, some (12, true), [], .p (.mv (.t 1))⟩,
        ⟨some 15, some (12, true), [], .p (.lenV false (.t 14))⟩,
        ⟨some 16, some (12, true), [], .p (.bin .lss (.t 13) (.t 15))⟩,
        ⟨some 17, none, [], .p (.pick (.t 12) (.t 16) (.c (.bool false)))⟩]) (
    .cond (.t 17) (
      .skip) (
      .exit 0))) (
  .seq (
    .block 1 (
      .seq (
        .region [
          ⟨some 20, none, [], .p (.mv (.t 0))⟩,
          ⟨some 21, none, [], .p (.mv (.t 6))⟩,
          ⟨some 22, none, [], .p (.idxStr (.t 20) (.t 21))⟩,
          ⟨some 23, none, [], .p (.mv (.t 1))⟩,
          ⟨some 24, none, [], .p (.mv (.t 6))⟩,
          ⟨some 25, none, [], .p (.idxStr (.t 23) (.t 24))⟩,
          ⟨some 26, none, [], .call 20024 4 true (.f 30) [.t 22, .t 25]⟩,
          ⟨some 7, none, [], .p (.mv (.t 26))⟩]) (
      .region [
        ⟨some 27, none, [], .p (.mv (.t 5))⟩,
        ⟨some 28, none, [], .p (.mv (.t 7))⟩,
        ⟨some 29, none, [], .a 24008 (.buildS 1 1 [byteAV 0] [(0, 1, .t 28)])⟩,
        ⟨some 30, none, [], .w (.append 24012 1 1 (.t 27) (.t 29))⟩,
        ⟨some 5, none, [], .p (.mv (.t 30))⟩]))) (
  .region [
    ⟨some 18, none, [], .p (.mv (.t 6))⟩,
    ⟨some 19, none, [], .p (.bin .add (.t 18) (.c (.int .i64 1)))⟩,
    ⟨some 6, none, [], .p (.mv (.t 19))⟩]))

def s26 : SFunc := ⟨
  .seq (
    .region [
      ⟨some 4, none, [], .p (.mv (.c (.str [])))⟩]) (
  .seq (
    .region [
      ⟨some 5, none, [], .p (.mv (.c (.slice none 0 0)))⟩]) (
  .seq (
    .seq (
      .region [
        ⟨some 6, none, [], .p (.mv (.c (.int .i64 0)))⟩]) (
    .block 0 (
      .loop k26_0 a26_0 s26_b0))) (
  .seq (
    .region [
      ⟨some 31, none, [], .p (.mv (.t 5))⟩,
      ⟨some 32, none, [], .r (.toStr (.t 31))⟩,
      ⟨some 4, none, [], .p (.mv (.t 32))⟩]) (
  .ret)))),
  33, [Sum.inl 4]⟩

theorem c26 : cFunc Try.prog quiet Try.f26 [[0, 1, 5, 6], [5]] = some s26 := by kernel_rfl

-- 27 calls [31, 32]
def s27 : SFunc := ⟨
  .seq (
    .region [
      ⟨some 2, none, [], .p (.mv (.c (.slice none 0 0)))⟩,
      ⟨some 3, none, [], .p (.mv (.c (.int .i64 0)))⟩]) (
  .seq (
    .region [
      ⟨some 4, none, [], .p (.mv (.t 0))⟩,
      ⟨some 5, none, [], .call 4004 4 true (.f 31) [.t 4, .f 32]⟩,
      ⟨some 6, none, [], .p (.extract (.t 5) 0)⟩,
      ⟨some 7, none, [], .p (.extract (.t 5) 1)⟩,
      ⟨some 2, none, [], .p (.mv (.t 6))⟩,
      ⟨some 3, none, [], .p (.mv (.t 7))⟩]) (
  .ret)),
  8, [Sum.inl 2, Sum.inl 3]⟩

theorem c27 : cFunc Try.prog quiet Try.f27 [] = some s27 := by kernel_rfl

-- 28 calls [10]
def s28 : SFunc := ⟨
  .region [
    ⟨some 11, none, [], .p (.mv (.t 0))⟩,
    ⟨some 12, none, [], .p (.mv (.t 1))⟩,
    ⟨some 13, none, [], .p (.mv (.t 0))⟩,
    ⟨some 14, none, [], .p (.mv (.t 2))⟩,
    ⟨some 15, none, [], .p (.mv (.t 0))⟩,
    ⟨some 16, none, [], .p (.mv (.t 3))⟩,
    ⟨some 17, none, [], .p (.mv (.t 0))⟩,
    ⟨some 18, none, [], .p (.mv (.t 4))⟩,
    ⟨some 19, none, [], .p (.mv (.t 0))⟩,
    ⟨some 20, none, [], .p (.mv (.t 1))⟩,
    ⟨some 21, none, [], .p (.nilChk (.t 19))⟩,
    ⟨some 22, none, [], .p (.iaddrA 16 1 (.t 21) (.t 20))⟩,
    ⟨some 23, none, [], .r (.load1 (.t 22))⟩,
    ⟨some 24, none, [], .p (.mv (.t 0))⟩,
    ⟨some 25, none, [], .p (.mv (.t 2))⟩,
    ⟨some 26, none, [], .p (.nilChk (.t 24))⟩,
    ⟨some 27, none, [], .p (.iaddrA 16 1 (.t 26) (.t 25))⟩,
    ⟨some 28, none, [], .r (.load1 (.t 27))⟩,
    ⟨some 29, none, [], .p (.mv (.t 0))⟩,
    ⟨some 30, none, [], .p (.mv (.t 3))⟩,
    ⟨some 31, none, [], .p (.nilChk (.t 29))⟩,
    ⟨some 32, none, [], .p (.iaddrA 16 1 (.t 31) (.t 30))⟩,
    ⟨some 33, none, [], .r (.load1 (.t 32))⟩,
    ⟨some 34, none, [], .p (.mv (.t 0))⟩,
    ⟨some 35, none, [], .p (.mv (.t 4))⟩,
    ⟨some 36, none, [], .p (.nilChk (.t 34))⟩,
    ⟨some 37, none, [], .p (.iaddrA 16 1 (.t 36) (.t 35))⟩,
    ⟨some 38, none, [], .r (.load1 (.t 37))⟩,
    ⟨some 39, none, [], .call 112 4 true (.f 10) [.t 23, .t 28, .t 33, .t 38]⟩,
    ⟨some 10, none, [], .p (.mv (.t 39))⟩,
    ⟨some 40, none, [], .p (.extract (.t 10) 0)⟩,
    ⟨some 41, none, [], .p (.extract (.t 10) 1)⟩,
    ⟨some 42, none, [], .p (.extract (.t 10) 2)⟩,
    ⟨some 43, none, [], .p (.extract (.t 10) 3)⟩,
    ⟨some 44, none, [], .p (.nilChk (.t 11))⟩,
    ⟨some 45, none, [], .p (.iaddrA 16 1 (.t 44) (.t 12))⟩,
    ⟨none, none, [], .w (.store1 (.t 45) (.t 40))⟩,
    ⟨some 46, none, [], .p (.nilChk (.t 13))⟩,
    ⟨some 47, none, [], .p (.iaddrA 16 1 (.t 46) (.t 14))⟩,
    ⟨none, none, [], .w (.store1 (.t 47) (.t 41))⟩,
    ⟨some 48, none, [], .p (.nilChk (.t 15))⟩,
    ⟨some 49, none, [], .p (.iaddrA 16 1 (.t 48) (.t 16))⟩,
    ⟨none, none, [], .w (.store1 (.t 49) (.t 42))⟩,
    ⟨some 50, none, [], .p (.nilChk (.t 17))⟩,
    ⟨some 51, none, [], .p (.iaddrA 16 1 (.t 50) (.t 18))⟩,
    ⟨none, none, [], .w (.store1 (.t 51) (.t 43))⟩],
  52, []⟩

theorem c28 : cFunc Try.prog quiet Try.f28 [] = some s28 := by kernel_rfl

-- 29 calls []
abbrev k29_0 : List Nat := [3, 10, 11, 12]
abbrev a29_0 : List Nat := [3]
abbrev e29_0 (v3 v10 v11 v12 : AV) : Env := [.dead, .dead, .dead, v3, .dead, .dead, .dead, .dead, .dead, .dead, v10, v11, v12, .dead, .dead, .dead, .dead, .dead, .dead, .dead, .dead, .dead, .dead, .dead, .dead, .dead, .dead, .dead, .dead, .dead, .dead, .dead, .dead]
abbrev x29_0 (v3 : AV) : Env := [.dead, .dead, .dead, v3, .dead, .dead, .dead, .dead, .dead, .dead, .dead, .dead, .dead, .dead, .dead, .dead, .dead, .dead, .dead, .dead, .dead, .dead, .dead, .dead, .dead, .dead, .dead, .dead, .dead, .dead, .dead, .dead, .dead]
def s29_b0 : SCode :=
  .seq (
    .region [
      ⟨some 13, none, [], .p (.bin .lss (.t 12) (.t 11))⟩]) (
  .seq (
    .cond (.t 13) (
      .skip) (
      .exit 0)) (
  .seq (
    .block 1 (
      .seq (
        .region [
          ⟨some 14, none, [], .p (.iaddrS 1 (.t 10) (.t 12))⟩,
          ⟨some 15, none, [], .r (.load1 (.t 14))⟩,
          ⟨some 5, none, [], .p (.mv (.t 15))⟩]) (
      .region [
        ⟨some 16, none, [], .p (.mv (.t 3))⟩,
        ⟨some 17, none, [], .p (.mv (.t 5))⟩,
        ⟨some 18, none, [], .p (.conv .u8 (.t 17))⟩,
        ⟨some 19, none, [], .p (.mv (.t 5))⟩,
        ⟨some 20, none, [], .p (.bin .shr (.t 19) (.c (u64 8#64)))⟩,
        ⟨some 21, none, [], .p (.conv .u8 (.t 20))⟩,
        ⟨some 22, none, [], .p (.mv (.t 5))⟩,
        ⟨some 23, none, [], .p (.bin .shr (.t 22) (.c (u64 16#64)))⟩,
        ⟨some 24, none, [], .p (.conv .u8 (.t 23))⟩,
        ⟨some 25, none, [], .p (.mv (.t 5))⟩,
        ⟨some 26, none, [], .p (.bin .shr (.t 25) (.c (u64 24#64)))⟩,
        ⟨some 27, none, [], .p (.conv .u8 (.t 26))⟩,
        ⟨some 28, none, [], .a 20048 (.buildS 1 4 [byteAV 0] [(0, 1, .t 18), (1, 1, .t 21), (2, 1, .t 24), (3, 1, .t 27)])⟩,
        ⟨some 29, none, [], .w (.append 20052 1 1 (.t 16) (.t 28))⟩,
        ⟨some 3, none, [], .p (.mv (.t 29))⟩]))) (
  .region [
    ⟨some 30, none, [], .p (.bin .add (.t 12) (.c (.int .i64 1)))⟩,
    ⟨some 12, none, [], .p (.mv (.t 30))⟩])))

def s29 : SFunc := ⟨
  .seq (
    .region [
      ⟨some 2, none, [], .p (.mv (.c (.str [])))⟩]) (
  .seq (
    .region [
      ⟨some 6, none, [], .p (.mv (.t 0))⟩,
      ⟨some 7, none, [], .p (.lenV true (.t 6))⟩,
      ⟨some 8, none, [], .p (.bin .mul (.c (.int .i64 4)) (.t 7))⟩,
      ⟨some 9, none, [], .a 4012 (.mkSlice 1 1 [byteAV 0] (.c (.int .i64 0)) (.t 8))⟩,
      ⟨some 3, none, [], .p (.mv (.t 9))⟩]) (
  .seq (
    .seq (
      .region [
        ⟨some 10, none, [], .p (.mv (.t 0))⟩,
        ⟨some 11, none, [], .p (.lenV true (.t 10))⟩,
        ⟨some 12, none, [], .p (.mv (.c (.int .i64 0)))⟩]) (
    .block 0 (
      .loop k29_0 a29_0 s29_b0))) (
  .seq (
    .region [
      ⟨some 31, none, [], .p (.mv (.t 3))⟩,
      ⟨some 32, none, [], .r (.toStr (.t 31))⟩,
      ⟨some 2, none, [], .p (.mv (.t 32))⟩]) (
  .ret)))),
  33, [Sum.inl 2]⟩

theorem c29 : cFunc Try.prog quiet Try.f29 [[3, 10, 11, 12], [3]] = some s29 := by kernel_rfl

-- 30 calls []
abbrev k30_0 : List Nat := [0, 1, 5, 6, 7]
abbrev a30_0 : List Nat := [5]
abbrev e30_0 (v0 v1 v5 v6 v7 : AV) : Env := [v0, v1, .dead, .dead, .dead, v5, v6, v7, .dead, .dead, .dead, .dead, .dead, .dead, .dead, .dead, .dead, .dead, .dead, .dead, .dead, .dead, .dead, .dead, .dead, .dead, .dead]
abbrev x30_0 (v5 : AV) : Env := [.dead, .dead, .dead, .dead, .dead, v5, .dead, .dead, .dead, .dead, .dead, .dead, .dead, .dead, .dead, .dead, .dead, .dead, .dead, .dead, .dead, .dead, .dead, .dead, .dead, .dead, .dead]
def s30_b0 : SCode :=
  .seq (
    .seq (
      .region [
        ⟨some 8, none, [], .p (.mv (.t 7))⟩,
        ⟨some 9, none, [], .p (.bin .lss (.t 8) (.c (.int .i64 8)))⟩]) (
    .cond (.t 9) (
      .skip) (
      .exit 0))) (
  .seq (
    .block 1 (
      .seq (
        .seq (
          .region [
            ⟨some 12, none, [], .p (.mv (.t 0))⟩,
            ⟨some 13, none, [], .p (.bin .rem (.t 12) (.c (byteAV 2)))⟩,
            ⟨some 14, none, [], .p (.mv (.t 1))⟩,
            ⟨some 15, none, [], .p (.bin .rem (.t 14) (.c (byteAV 2)))⟩,
            ⟨some 16, none, [], .p (.bin .neq (.t 13) (.t 15))⟩]) (
        .cond (.t 16) (
          .region [
            ⟨some 17, none, [], .p (.mv (.t 5))⟩,
            ⟨some 18, none, [], .p (.mv (.t 6))⟩,
            ⟨some 19, none, [], .p (.bin .add (.t 17) (.t 18))⟩,
            ⟨some 5, none, [], .p (.mv (.t 19))⟩]) (
          .skip))) (
      .seq (
        .region [
          ⟨some 20, none, [], .p (.mv (.t 0))⟩,
          ⟨some 21, none, [], .p (.bin .quo (.t 20) (.c (byteAV 2)))⟩,
          ⟨some 0, none, [], .p (.mv (.t 21))⟩]) (
      .seq (
        .region [
          ⟨some 22, none, [], .p (.mv (.t 1))⟩,
          ⟨some 23, none, [], .p (.bin .quo (.t 22) (.c (byteAV 2)))⟩,
          ⟨some 1, none, [], .p (.mv (.t 23))⟩]) (
      .region [
        ⟨some 24, none, [], .p (.mv (.t 6))⟩,
        ⟨some 25, none, [], .p (.bin .mul (.c (byteAV 2)) (.t 24))⟩,
        ⟨some 6, none, [], .p (.mv (.t 25))⟩]))))) (
  .region [
    ⟨some 10, none, [], .p (.mv (.t 7))⟩,
    ⟨some 11, none, [], .p (.bin .add (.t 10) (.c (.int .i64 1)))⟩,
    ⟨some 7, none, [], .p (.mv (.t 11))⟩]))

def s30 : SFunc := ⟨
  .seq (
    .region [
      ⟨some 4, none, [], .p (.mv (.c (byteAV 0)))⟩]) (
  .seq (
    .region [
      ⟨some 5, none, [], .p (.mv (.c (byteAV 0)))⟩]) (
  .seq (
    .region [
      ⟨some 6, none, [], .p (.mv (.c (byteAV 1)))⟩]) (
  .seq (
    .seq (
      .region [
        ⟨some 7, none, [], .p (.mv (.c (.int .i64 0)))⟩]) (
    .block 0 (
      .loop k30_0 a30_0 s30_b0))) (
  .seq (
    .region [
      ⟨some 26, none, [], .p (.mv (.t 5))⟩,
      ⟨some 4, none, [], .p (.mv (.t 26))⟩]) (
  .ret))))),
  27, [Sum.inl 4]⟩

theorem c30 : cFunc Try.prog quiet Try.f30 [[0, 1, 5, 6, 7], [5]] = some s30 := by kernel_rfl

-- 31 calls []
abbrev k31_0 : List Nat := [0, 1, 6, 17, 18]
abbrev a31_0 : List Nat := [6]
abbrev e31_0 (v0 v1 v6 v17 v18 : AV) : Env := [v0, v1, .dead, .dead, .dead, .dead, v6, .dead, .dead, .dead, .dead, .dead, .dead, .dead, .dead, .dead, .dead, v17, v18, .dead, .dead, .dead, .dead, .dead, .dead, .dead, .dead, .dead, .dead, .dead, .dead, .dead, .dead, .dead, .dead, .dead, .dead, .dead, .dead, .dead, .dead, .dead, .dead, .dead, .dead, .dead, .dead, .dead, .dead, .dead, .dead]
abbrev x31_0 (v6 : AV) : Env := [.dead, .dead, .dead, .dead, .dead, .dead, v6, .dead, .dead, .dead, .dead, .dead, .dead, .dead, .dead, .dead, .dead, .dead, .dead, .dead, .dead, .dead, .dead, .dead, .dead, .dead, .dead, .dead, .dead, .dead, .dead, .dead, .dead, .dead, .dead, .dead, .dead, .dead, .dead, .dead, .dead, .dead, .dead, .dead, .dead, .dead, .dead, .dead, .dead, .dead, .dead]
def s31_b0 : SCode :=
  .seq (
    .region [
      ⟨some 19, none, [], .p (.bin .lss (.t 18) (.t 17))⟩]) (
  .seq (
    .cond (.t 19) (
      .skip) (
      .exit 0)) (
  .seq (
    .block 1 (
      .seq (
        .region [
          ⟨some 20, none, [], .p (.mv (.t 18))⟩,
          ⟨some 7, none, [], .p (.mv (.t 20))⟩]) (
      .region [
        ⟨some 21, none, [], .p (.mv (.t 6))⟩,
        ⟨some 22, none, [], .p (.mv (.t 7))⟩,
        ⟨some 23, none, [], .p (.mv (.t 1))⟩,
        ⟨some 24, none, [], .p (.mv (.t 0))⟩,
        ⟨some 25, none, [], .p (.mv (.t 7))⟩,
        ⟨some 26, none, [], .p (.bin .mul (.c (.int .i64 4)) (.t 25))⟩,
        ⟨some 27, none, [], .p (.idxStr (.t 24) (.t 26))⟩,
        ⟨some 28, none, [], .p (.conv .u32 (.t 27))⟩,
        ⟨some 29, none, [], .p (.mv (.t 0))⟩,
        ⟨some 30, none, [], .p (.mv (.t 7))⟩,
        ⟨some 31, none, [], .p (.bin .mul (.c (.int .i64 4)) (.t 30))⟩,
        ⟨some 32, none, [], .p (.bin .add (.t 31) (.c (.int .i64 1)))⟩,
        ⟨some 33, none, [], .p (.idxStr (.t 29) (.t 32))⟩,
        ⟨some 34, none, [], .p (.conv .u32 (.t 33))⟩,
        ⟨some 35, none, [], .p (.mv (.t 0))⟩,
        ⟨some 36, none, [], .p (.mv (.t 7))⟩,
        ⟨some 37, none, [], .p (.bin .mul (.c (.int .i64 4)) (.t 36))⟩,
        ⟨some 38, none, [], .p (.bin .add (.t 37) (.c (.int .i64 2)))⟩,
        ⟨some 39, none, [], .p (.idxStr (.t 35) (.t 38))⟩,
        ⟨some 40, none, [], .p (.conv .u32 (.t 39))⟩,
        ⟨some 41, none, [], .p (.mv (.t 0))⟩,
        ⟨some 42, none, [], .p (.mv (.t 7))⟩,
        ⟨some 43, none, [], .p (.bin .mul (.c (.int .i64 4)) (.t 42))⟩,
        ⟨some 44, none, [], .p (.bin .add (.t 43) (.c (.int .i64 3)))⟩,
        ⟨some 45, none, [], .p (.idxStr (.t 41) (.t 44))⟩,
        ⟨some 46, none, [], .p (.conv .u32 (.t 45))⟩,
        ⟨some 47, none, [], .call 28104 4 true (.t 23) [.t 28, .t 34, .t 40, .t 46]⟩,
        ⟨some 48, none, [], .p (.iaddrS 1 (.t 21) (.t 22))⟩,
        ⟨none, none, [], .w (.store1 (.t 48) (.t 47))⟩]))) (
  .region [
    ⟨some 49, none, [], .p (.bin .add (.t 18) (.c (.int .i64 1)))⟩,
    ⟨some 18, none, [], .p (.mv (.t 49))⟩])))

def s31 : SFunc := ⟨
  .seq (
    .region [
      ⟨some 4, none, [], .p (.mv (.c (.slice none 0 0)))⟩,
      ⟨some 5, none, [], .p (.mv (.c (.int .i64 0)))⟩]) (
  .seq (
    .seq (
      .region [
        ⟨some 8, none, [], .p (.mv (.t 0))⟩,
        ⟨some 9, none, [], .p (.lenV false (.t 8))⟩,
        ⟨some 10, none, [], .p (.bin .rem (.t 9) (.c (.int .i64 4)))⟩,
        ⟨some 11, none, [], .p (.bin .neq (.t 10) (.c (.int .i64 0)))⟩]) (
    .cond (.t 11) (
      .seq (
        .region [
          ⟨some 4, none, [], .p (.mv (.c (.slice none 0 0)))⟩,
          ⟨some 5, none, [], .p (.mv (.c (.int .i64 7)))⟩]) (
      .ret)) (
      .skip))) (
  .seq (
    .region [
      ⟨some 12, none, [], .p (.mv (.t 0))⟩,
      ⟨some 13, none, [], .p (.lenV false (.t 12))⟩,
      ⟨some 14, none, [], .p (.bin .quo (.t 13) (.c (.int .i64 4)))⟩,
      ⟨some 15, none, [], .a 12012 (.mkSlice 1 4 [u32 0#32] (.t 14) (.t 14))⟩,
      ⟨some 6, none, [], .p (.mv (.t 15))⟩]) (
  .seq (
    .seq (
      .region [
        ⟨some 16, none, [], .p (.mv (.t 6))⟩,
        ⟨some 17, none, [], .p (.lenV true (.t 16))⟩,
        ⟨some 18, none, [], .p (.mv (.c (.int .i64 0)))⟩]) (
    .block 0 (
      .loop k31_0 a31_0 s31_b0))) (
  .seq (
    .region [
      ⟨some 50, none, [], .p (.mv (.t 6))⟩,
      ⟨some 4, none, [], .p (.mv (.t 50))⟩,
      ⟨some 5, none, [], .p (.mv (.c (.int .i64 0)))⟩]) (
  .ret))))),
  51, [Sum.inl 4, Sum.inl 5]⟩

theorem c31 : cFunc Try.prog quiet Try.f31 [[0, 1, 6, 17, 18], [6]] = some s31 := by kernel_rfl

-- 32 calls []
def s32 : SFunc := ⟨
  .seq (
    .region [
      ⟨some 8, none, [], .p (.mv (.c (u32 0#32)))⟩]) (
  .seq (
    .region [
      ⟨some 9, none, [], .p (.mv (.t 0))⟩,
      ⟨some 10, none, [], .p (.mv (.t 1))⟩,
      ⟨some 11, none, [], .p (.bin .shl (.t 10) (.c (u64 8#64)))⟩,
      ⟨some 12, none, [], .p (.bin .or (.t 9) (.t 11))⟩,
      ⟨some 13, none, [], .p (.mv (.t 2))⟩,
      ⟨some 14, none, [], .p (.bin .shl (.t 13) (.c (u64 16#64)))⟩,
      ⟨some 15, none, [], .p (.bin .or (.t 12) (.t 14))⟩,
      ⟨some 16, none, [], .p (.mv (.t 3))⟩,
      ⟨some 17, none, [], .p (.bin .shl (.t 16) (.c (u64 24#64)))⟩,
      ⟨some 18, none, [], .p (.bin .or (.t 15) (.t 17))⟩,
      ⟨some 8, none, [], .p (.mv (.t 18))⟩]) (
  .ret)),
  19, [Sum.inl 8]⟩

theorem c32 : cFunc Try.prog quiet Try.f32 [] = some s32 := by kernel_rfl

def SP : SProg := tabP [(3, s3), (4, s4), (5, s5), (6, s6), (7, s7), (8, s8), (9, s9), (10, s10), (11, s11), (12, s12), (13, s13), (14, s14), (15, s15), (16, s16), (17, s17), (18, s18), (19, s19), (20, s20), (21, s21), (22, s22), (23, s23), (24, s24), (25, s25), (26, s26), (27, s27), (28, s28), (29, s29), (30, s30), (31, s31), (32, s32)]

theorem comp : Comp Try.prog SP := comp_of (by kernel_rfl) ⟨⟨quiet, _, _, Try.func3, c3⟩, ⟨quiet, _, _, Try.func4, c4⟩, ⟨quiet, _, _, Try.func5, c5⟩, ⟨quiet, _, _, Try.func6, c6⟩, ⟨quiet, _, _, Try.func7, c7⟩, ⟨quiet, _, _, Try.func8, c8⟩, ⟨quiet, _, _, Try.func9, c9⟩, ⟨quiet, _, _, Try.func10, c10⟩, ⟨quiet, _, _, Try.func11, c11⟩, ⟨quiet, _, _, Try.func12, c12⟩, ⟨quiet, _, _, Try.func13, c13⟩, ⟨quiet, _, _, Try.func14, c14⟩, ⟨quiet, _, _, Try.func15, c15⟩, ⟨quiet, _, _, Try.func16, c16⟩, ⟨quiet, _, _, Try.func17, c17⟩, ⟨quiet, _, _, Try.func18, c18⟩, ⟨quiet, _, _, Try.func19, c19⟩, ⟨quiet, _, _, Try.func20, c20⟩, ⟨quiet, _, _, Try.func21, c21⟩, ⟨quiet, _, _, Try.func22, c22⟩, ⟨quiet, _, _, Try.func23, c23⟩, ⟨quiet, _, _, Try.func24, c24⟩, ⟨quiet, _, _, Try.func25, c25⟩, ⟨quiet, _, _, Try.func26, c26⟩, ⟨quiet, _, _, Try.func27, c27⟩, ⟨quiet, _, _, Try.func28, c28⟩, ⟨quiet, _, _, Try.func29, c29⟩, ⟨quiet, _, _, Try.func30, c30⟩, ⟨quiet, _, _, Try.func31, c31⟩, ⟨quiet, _, _, Try.func32, c32⟩, trivial⟩


end Go.Proofs.Ytemjbimaghdokaa
