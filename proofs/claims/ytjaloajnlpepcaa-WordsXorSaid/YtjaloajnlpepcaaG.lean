import Derived.Test.YtjaloajnlpepcaaProg
import Derived.Test.YtjaloajnlpepcaaDetQ
import Derived.KernelRfl
set_option maxRecDepth 100000
namespace Go.Proofs.Ytjaloajnlpepcaa
open Go.Det

def quiet : Nat → Bool := (fun _ => true)

-- 3 calls [10, 11]
def s3 : SFunc := ⟨
  .seq (
    .region [
      ⟨some 4, none, [], .p (.mv (.c (.bool false)))⟩]) (
  .seq (
    .region [
      ⟨some 5, none, [], .p (.mv (.t 0))⟩,
      ⟨some 6, none, [], .p (.mv (.t 0))⟩,
      ⟨some 7, none, [], .p (.lenV false (.t 6))⟩,
      ⟨some 8, none, [], .p (.minmax false (.t 7) (.c (.int .i64 2000)))⟩,
      ⟨some 9, none, [], .p (.slcStr (.t 5) none (some (.t 8)))⟩,
      ⟨some 10, none, [], .p (.mv (.t 1))⟩,
      ⟨some 11, none, [], .p (.mv (.t 1))⟩,
      ⟨some 12, none, [], .p (.lenV false (.t 11))⟩,
      ⟨some 13, none, [], .p (.minmax false (.t 12) (.c (.int .i64 2000)))⟩,
      ⟨some 14, none, [], .p (.slcStr (.t 10) none (some (.t 13)))⟩,
      ⟨some 0, none, [], .p (.mv (.t 9))⟩,
      ⟨some 1, none, [], .p (.mv (.t 14))⟩]) (
  .seq (
    .region [
      ⟨some 15, none, [], .call 8000 4 true (.f 10) [.c (.str [15]), .c (.str [5])]⟩,
      ⟨some 16, none, [], .p (.bin .eql (.t 15) (.c (.str [10])))⟩,
      ⟨some 17, none, [], .p (.mv (.t 16))⟩,
      ⟨some 18, some (17, true), [], .p (.mv (.t 0))⟩,
      ⟨some 19, some (17, true), [], .p (.mv (.t 1))⟩,
      ⟨some 20, some (17, true), [], .call 8020 4 true (.f 10) [.t 18, .t 19]⟩,
      ⟨some 21, some (17, true), [], .p (.mv (.t 0))⟩,
      ⟨some 22, some (17, true), [], .p (.mv (.t 1))⟩,
      ⟨some 23, some (17, true), [], .call 8032 4 true (.f 11) [.t 21, .t 22]⟩,
      ⟨some 24, some (17, true), [], .p (.bin .eql (.t 20) (.t 23))⟩,
      ⟨some 25, none, [], .p (.pick (.t 17) (.t 24) (.c (.bool false)))⟩,
      ⟨some 4, none, [], .p (.mv (.t 25))⟩]) (
  .ret))),
  26, [Sum.inl 4]⟩

theorem c3 : cFunc Try.prog quiet Try.f3 [] = some s3 := by kernel_rfl

-- 4 calls [10]
def s4 : SFunc := ⟨
  .seq (
    .region [
      ⟨some 6, none, [], .p (.mv (.c (.bool false)))⟩]) (
  .seq (
    .region [
      ⟨some 8, none, [], .p (.mv (.t 0))⟩,
      ⟨some 9, none, [], .p (.lenV false (.t 8))⟩,
      ⟨some 10, none, [], .p (.mv (.t 1))⟩,
      ⟨some 11, none, [], .p (.lenV false (.t 10))⟩,
      ⟨some 12, none, [], .p (.mv (.t 2))⟩,
      ⟨some 13, none, [], .p (.lenV false (.t 12))⟩,
      ⟨some 14, none, [], .p (.minmax4 false (.t 9) (.t 11) (.t 13) (.c (.int .i64 2000)))⟩,
      ⟨some 7, none, [], .p (.mv (.t 14))⟩]) (
  .seq (
    .region [
      ⟨some 15, none, [], .p (.mv (.t 0))⟩,
      ⟨some 16, none, [], .p (.mv (.t 7))⟩,
      ⟨some 17, none, [], .p (.slcStr (.t 15) none (some (.t 16)))⟩,
      ⟨some 18, none, [], .p (.mv (.t 1))⟩,
      ⟨some 19, none, [], .p (.mv (.t 7))⟩,
      ⟨some 20, none, [], .p (.slcStr (.t 18) none (some (.t 19)))⟩,
      ⟨some 21, none, [], .p (.mv (.t 2))⟩,
      ⟨some 22, none, [], .p (.mv (.t 7))⟩,
      ⟨some 23, none, [], .p (.slcStr (.t 21) none (some (.t 22)))⟩,
      ⟨some 0, none, [], .p (.mv (.t 17))⟩,
      ⟨some 1, none, [], .p (.mv (.t 20))⟩,
      ⟨some 2, none, [], .p (.mv (.t 23))⟩]) (
  .seq (
    .region [
      ⟨some 24, none, [], .call 12000 4 true (.f 10) [.c (.str [15]), .c (.str [5])]⟩,
      ⟨some 25, none, [], .p (.bin .eql (.t 24) (.c (.str [10])))⟩,
      ⟨some 26, none, [], .p (.mv (.t 25))⟩,
      ⟨some 27, some (26, true), [], .p (.mv (.t 0))⟩,
      ⟨some 28, some (26, true), [], .p (.mv (.t 1))⟩,
      ⟨some 29, some (26, true), [], .call 12020 4 true (.f 10) [.t 27, .t 28]⟩,
      ⟨some 30, some (26, true), [], .p (.mv (.t 1))⟩,
      ⟨some 31, some (26, true), [], .call 12028 4 true (.f 10) [.t 29, .t 30]⟩,
      ⟨some 32, some (26, true), [], .p (.mv (.t 0))⟩,
      ⟨some 33, some (26, true), [], .p (.bin .eql (.t 31) (.t 32))⟩,
      ⟨some 34, none, [], .p (.pick (.t 26) (.t 33) (.c (.bool false)))⟩,
      ⟨some 35, none, [], .p (.mv (.t 34))⟩,
      ⟨some 36, some (35, true), [], .p (.mv (.t 0))⟩,
      ⟨some 37, some (35, true), [], .p (.mv (.t 1))⟩,
      ⟨some 38, some (35, true), [], .call 12056 4 true (.f 10) [.t 36, .t 37]⟩,
      ⟨some 39, some (35, true), [], .p (.mv (.t 1))⟩,
      ⟨some 40, some (35, true), [], .p (.mv (.t 0))⟩,
      ⟨some 41, some (35, true), [], .call 12068 4 true (.f 10) [.t 39, .t 40]⟩,
      ⟨some 42, some (35, true), [], .p (.bin .eql (.t 38) (.t 41))⟩,
      ⟨some 43, none, [], .p (.pick (.t 35) (.t 42) (.c (.bool false)))⟩,
      ⟨some 44, none, [], .p (.mv (.t 43))⟩,
      ⟨some 45, some (44, true), [], .p (.mv (.t 0))⟩,
      ⟨some 46, some (44, true), [], .p (.mv (.t 1))⟩,
      ⟨some 47, some (44, true), [], .call 12092 4 true (.f 10) [.t 45, .t 46]⟩,
      ⟨some 48, some (44, true), [], .p (.mv (.t 2))⟩,
      ⟨some 49, some (44, true), [], .call 12100 4 true (.f 10) [.t 47, .t 48]⟩,
      ⟨some 50, some (44, true), [], .p (.mv (.t 0))⟩,
      ⟨some 51, some (44, true), [], .p (.mv (.t 1))⟩,
      ⟨some 52, some (44, true), [], .p (.mv (.t 2))⟩,
      ⟨some 53, some (44, true), [], .call 12116 4 true (.f 10) [.t 51, .t 52]⟩,
      ⟨some 54, some (44, true), [], .call 12120 4 true (.f 10) [.t 50, .t 53]⟩,
      ⟨some 55, some (44, true), [], .p (.bin .eql (.t 49) (.t 54))⟩,
      ⟨some 56, none, [], .p (.pick (.t 44) (.t 55) (.c (.bool false)))⟩,
      ⟨some 6, none, [], .p (.mv (.t 56))⟩]) (
  .ret)))),
  57, [Sum.inl 6]⟩

theorem c4 : cFunc Try.prog quiet Try.f4 [] = some s4 := by kernel_rfl

-- 5 calls [12, 13, 14, 15, 16]
def s5 : SFunc := ⟨
  .seq (
    .region [
      ⟨some 2, none, [], .p (.mv (.c (.bool false)))⟩]) (
  .seq (
    .region [
      ⟨some 11, none, [], .p (.mv (.t 0))⟩,
      ⟨some 12, none, [], .p (.mv (.t 0))⟩,
      ⟨some 13, none, [], .p (.lenV false (.t 12))⟩,
      ⟨some 14, none, [], .p (.minmax false (.t 13) (.c (.int .i64 4000)))⟩,
      ⟨some 15, none, [], .p (.slcStr (.t 11) none (some (.t 14)))⟩,
      ⟨some 0, none, [], .p (.mv (.t 15))⟩]) (
  .seq (
    .region [
      ⟨some 17, none, [], .p (.mv (.t 0))⟩,
      ⟨some 18, none, [], .call 8004 4 true (.f 12) [.t 17]⟩,
      ⟨some 16, none, [], .p (.mv (.t 18))⟩,
      ⟨some 19, none, [], .p (.extract (.t 16) 0)⟩,
      ⟨some 20, none, [], .p (.extract (.t 16) 1)⟩,
      ⟨some 3, none, [], .p (.mv (.t 19))⟩,
      ⟨some 4, none, [], .p (.mv (.t 20))⟩]) (
  .seq (
    .region [
      ⟨some 22, none, [], .p (.mv (.t 0))⟩,
      ⟨some 23, none, [], .call 12004 4 true (.f 13) [.t 22, .c (.bool false)]⟩,
      ⟨some 21, none, [], .p (.mv (.t 23))⟩,
      ⟨some 24, none, [], .p (.extract (.t 21) 0)⟩,
      ⟨some 25, none, [], .p (.extract (.t 21) 1)⟩,
      ⟨some 5, none, [], .p (.mv (.t 24))⟩,
      ⟨some 6, none, [], .p (.mv (.t 25))⟩]) (
  .seq (
    .region [
      ⟨some 27, none, [], .p (.mv (.t 0))⟩,
      ⟨some 28, none, [], .call 16004 4 true (.f 14) [.t 27]⟩,
      ⟨some 26, none, [], .p (.mv (.t 28))⟩,
      ⟨some 29, none, [], .p (.extract (.t 26) 0)⟩,
      ⟨some 30, none, [], .p (.extract (.t 26) 1)⟩,
      ⟨some 7, none, [], .p (.mv (.t 29))⟩,
      ⟨some 8, none, [], .p (.mv (.t 30))⟩]) (
  .seq (
    .region [
      ⟨some 32, none, [], .p (.mv (.t 0))⟩,
      ⟨some 33, none, [], .call 20004 4 true (.f 13) [.t 32, .c (.bool true)]⟩,
      ⟨some 31, none, [], .p (.mv (.t 33))⟩,
      ⟨some 34, none, [], .p (.extract (.t 31) 0)⟩,
      ⟨some 35, none, [], .p (.extract (.t 31) 1)⟩,
      ⟨some 9, none, [], .p (.mv (.t 34))⟩,
      ⟨some 10, none, [], .p (.mv (.t 35))⟩]) (
  .seq (
    .region [
      ⟨some 36, none, [], .call 24000 4 true (.f 15) []⟩,
      ⟨some 37, none, [], .p (.mv (.t 36))⟩,
      ⟨some 38, some (37, true), [], .p (.mv (.t 3))⟩,
      ⟨some 39, some (37, true), [], .p (.mv (.t 5))⟩,
      ⟨some 40, some (37, true), [], .call 24016 4 true (.f 16) [.t 38, .t 39]⟩,
      ⟨some 41, none, [], .p (.pick (.t 37) (.t 40) (.c (.bool false)))⟩,
      ⟨some 42, none, [], .p (.mv (.t 41))⟩,
      ⟨some 43, some (42, true), [], .p (.mv (.t 4))⟩,
      ⟨some 44, some (42, true), [], .p (.mv (.t 6))⟩,
      ⟨some 45, some (42, true), [], .p (.bin .eql (.t 43) (.t 44))⟩,
      ⟨some 46, none, [], .p (.pick (.t 42) (.t 45) (.c (.bool false)))⟩,
      ⟨some 47, none, [], .p (.mv (.t 46))⟩,
      ⟨some 48, some (47, true), [], .p (.mv (.t 7))⟩,
      ⟨some 49, some (47, true), [], .p (.mv (.t 9))⟩,
      ⟨some 50, some (47, true), [], .call 24056 4 true (.f 16) [.t 48, .t 49]⟩,
      ⟨some 51, none, [], .p (.pick (.t 47) (.t 50) (.c (.bool false)))⟩,
      ⟨some 52, none, [], .p (.mv (.t 51))⟩,
      ⟨some 53, some (52, true), [], .p (.mv (.t 8))⟩,
      ⟨some 54, some (52, true), [], .p (.mv (.t 10))⟩,
      ⟨some 55, some (52, true), [], .p (.bin .eql (.t 53) (.t 54))⟩,
      ⟨some 56, none, [], .p (.pick (.t 52) (.t 55) (.c (.bool false)))⟩,
      ⟨some 2, none, [], .p (.mv (.t 56))⟩]) (
  .ret))))))),
  57, [Sum.inl 2]⟩

theorem c5 : cFunc Try.prog quiet Try.f5 [] = some s5 := by kernel_rfl

-- 6 calls [15, 17, 18, 19, 20]
def s6 : SFunc := ⟨
  .seq (
    .region [
      ⟨some 4, none, [], .p (.mv (.c (.bool false)))⟩]) (
  .seq (
    .region [
      ⟨some 5, none, [], .call 4000 4 true (.f 15) []⟩,
      ⟨some 6, none, [], .p (.mv (.t 5))⟩,
      ⟨some 7, some (6, true), [], .p (.mv (.t 0))⟩,
      ⟨some 8, some (6, true), [], .p (.mv (.t 1))⟩,
      ⟨some 9, some (6, true), [], .call 4016 4 true (.f 17) [.t 7, .t 8]⟩,
      ⟨some 10, some (6, true), [], .p (.mv (.t 0))⟩,
      ⟨some 11, some (6, true), [], .p (.mv (.t 1))⟩,
      ⟨some 12, some (6, true), [], .call 4028 4 true (.f 18) [.t 10, .t 11]⟩,
      ⟨some 13, some (6, true), [], .p (.bin .eql (.t 9) (.t 12))⟩,
      ⟨some 14, none, [], .p (.pick (.t 6) (.t 13) (.c (.bool false)))⟩,
      ⟨some 15, none, [], .p (.mv (.t 14))⟩,
      ⟨some 16, some (15, true), [], .p (.mv (.t 0))⟩,
      ⟨some 17, some (15, true), [], .p (.mv (.t 1))⟩,
      ⟨some 18, some (15, true), [], .call 4052 4 true (.f 19) [.t 16, .t 17]⟩,
      ⟨some 19, some (15, true), [], .p (.mv (.t 0))⟩,
      ⟨some 20, some (15, true), [], .p (.mv (.t 1))⟩,
      ⟨some 21, some (15, true), [], .call 4064 4 true (.f 20) [.t 19, .t 20]⟩,
      ⟨some 22, some (15, true), [], .p (.bin .eql (.t 18) (.t 21))⟩,
      ⟨some 23, none, [], .p (.pick (.t 15) (.t 22) (.c (.bool false)))⟩,
      ⟨some 4, none, [], .p (.mv (.t 23))⟩]) (
  .ret)),
  24, [Sum.inl 4]⟩

theorem c6 : cFunc Try.prog quiet Try.f6 [] = some s6 := by kernel_rfl

-- 7 calls [15, 17, 19]
def s7 : SFunc := ⟨
  .seq (
    .region [
      ⟨some 6, none, [], .p (.mv (.c (.bool false)))⟩]) (
  .seq (
    .region [
      ⟨some 7, none, [], .call 4000 4 true (.f 15) []⟩,
      ⟨some 8, none, [], .p (.mv (.t 7))⟩,
      ⟨some 9, some (8, true), [], .p (.mv (.t 0))⟩,
      ⟨some 10, some (8, true), [], .p (.mv (.t 1))⟩,
      ⟨some 11, some (8, true), [], .call 4016 4 true (.f 17) [.t 9, .t 10]⟩,
      ⟨some 12, some (8, true), [], .p (.mv (.t 2))⟩,
      ⟨some 13, some (8, true), [], .call 4024 4 true (.f 17) [.t 11, .t 12]⟩,
      ⟨some 14, some (8, true), [], .p (.mv (.t 0))⟩,
      ⟨some 15, some (8, true), [], .p (.mv (.t 1))⟩,
      ⟨some 16, some (8, true), [], .p (.bin .and (.t 15) (.c (.int .i64 31)))⟩,
      ⟨some 17, some (8, true), [], .p (.mv (.t 2))⟩,
      ⟨some 18, some (8, true), [], .p (.bin .and (.t 17) (.c (.int .i64 31)))⟩,
      ⟨some 19, some (8, true), [], .p (.bin .add (.t 16) (.t 18))⟩,
      ⟨some 20, some (8, true), [], .call 4052 4 true (.f 17) [.t 14, .t 19]⟩,
      ⟨some 21, some (8, true), [], .p (.bin .eql (.t 13) (.t 20))⟩,
      ⟨some 22, none, [], .p (.pick (.t 8) (.t 21) (.c (.bool false)))⟩,
      ⟨some 23, none, [], .p (.mv (.t 22))⟩,
      ⟨some 24, some (23, true), [], .p (.mv (.t 0))⟩,
      ⟨some 25, some (23, true), [], .p (.mv (.t 2))⟩,
      ⟨some 26, some (23, true), [], .call 4076 4 true (.f 19) [.t 24, .t 25]⟩,
      ⟨some 27, some (23, true), [], .p (.mv (.t 0))⟩,
      ⟨some 28, some (23, true), [], .p (.mv (.t 2))⟩,
      ⟨some 29, some (23, true), [], .p (.bin .and (.t 28) (.c (.int .i64 31)))⟩,
      ⟨some 30, some (23, true), [], .p (.bin .sub (.c (.int .i64 32)) (.t 29))⟩,
      ⟨some 31, some (23, true), [], .call 4096 4 true (.f 17) [.t 27, .t 30]⟩,
      ⟨some 32, some (23, true), [], .p (.bin .eql (.t 26) (.t 31))⟩,
      ⟨some 33, none, [], .p (.pick (.t 23) (.t 32) (.c (.bool false)))⟩,
      ⟨some 6, none, [], .p (.mv (.t 33))⟩]) (
  .ret)),
  34, [Sum.inl 6]⟩

theorem c7 : cFunc Try.prog quiet Try.f7 [] = some s7 := by kernel_rfl

-- 8 calls [15, 21, 22, 23]
def s8 : SFunc := ⟨
  .seq (
    .region [
      ⟨some 2, none, [], .p (.mv (.c (.bool false)))⟩]) (
  .seq (
    .region [
      ⟨some 3, none, [], .p (.mv (.t 0))⟩,
      ⟨some 4, none, [], .p (.mv (.t 0))⟩,
      ⟨some 5, none, [], .p (.lenV true (.t 4))⟩,
      ⟨some 6, none, [], .p (.minmax false (.t 5) (.c (.int .i64 1000)))⟩,
      ⟨some 7, none, [], .p (.slcS 1 (.t 3) none (some (.t 6)) none)⟩,
      ⟨some 0, none, [], .p (.mv (.t 7))⟩]) (
  .seq (
    .region [
      ⟨some 8, none, [], .call 8000 4 true (.f 15) []⟩,
      ⟨some 9, none, [], .p (.mv (.t 8))⟩,
      ⟨some 10, some (9, true), [], .p (.mv (.t 0))⟩,
      ⟨some 11, some (9, true), [], .call 8012 4 true (.f 21) [.t 10]⟩,
      ⟨some 12, some (9, true), [], .p (.mv (.t 0))⟩,
      ⟨some 13, some (9, true), [], .call 8020 4 true (.f 22) [.t 12, .c (.bool false)]⟩,
      ⟨some 14, some (9, true), [], .p (.bin .eql (.t 11) (.t 13))⟩,
      ⟨some 15, none, [], .p (.pick (.t 9) (.t 14) (.c (.bool false)))⟩,
      ⟨some 16, none, [], .p (.mv (.t 15))⟩,
      ⟨some 17, some (16, true), [], .p (.mv (.t 0))⟩,
      ⟨some 18, some (16, true), [], .call 8040 4 true (.f 23) [.t 17]⟩,
      ⟨some 19, some (16, true), [], .p (.mv (.t 0))⟩,
      ⟨some 20, some (16, true), [], .call 8048 4 true (.f 22) [.t 19, .c (.bool true)]⟩,
      ⟨some 21, some (16, true), [], .p (.bin .eql (.t 18) (.t 20))⟩,
      ⟨some 22, none, [], .p (.pick (.t 16) (.t 21) (.c (.bool false)))⟩,
      ⟨some 2, none, [], .p (.mv (.t 22))⟩]) (
  .ret))),
  23, [Sum.inl 2]⟩

theorem c8 : cFunc Try.prog quiet Try.f8 [] = some s8 := by kernel_rfl

-- 9 calls [12, 14, 15, 16, 17, 19, 21, 23]
def s9 : SFunc := ⟨
  .seq (
    .region [
      ⟨some 6, none, [], .p (.mv (.c (.bool false)))⟩]) (
  .seq (
    .region [
      ⟨some 11, none, [], .p (.mv (.t 2))⟩,
      ⟨some 12, none, [], .p (.mv (.t 2))⟩,
      ⟨some 13, none, [], .p (.lenV true (.t 12))⟩,
      ⟨some 14, none, [], .p (.minmax false (.t 13) (.c (.int .i64 1000)))⟩,
      ⟨some 15, none, [], .p (.slcS 1 (.t 11) none (some (.t 14)) none)⟩,
      ⟨some 2, none, [], .p (.mv (.t 15))⟩]) (
  .seq (
    .region [
      ⟨some 17, none, [], .p (.mv (.t 2))⟩,
      ⟨some 18, none, [], .call 8004 4 true (.f 21) [.t 17]⟩,
      ⟨some 19, none, [], .call 8008 4 true (.f 12) [.t 18]⟩,
      ⟨some 16, none, [], .p (.mv (.t 19))⟩,
      ⟨some 20, none, [], .p (.extract (.t 16) 0)⟩,
      ⟨some 21, none, [], .p (.extract (.t 16) 1)⟩,
      ⟨some 7, none, [], .p (.mv (.t 20))⟩,
      ⟨some 8, none, [], .p (.mv (.t 21))⟩]) (
  .seq (
    .region [
      ⟨some 23, none, [], .p (.mv (.t 2))⟩,
      ⟨some 24, none, [], .call 12004 4 true (.f 23) [.t 23]⟩,
      ⟨some 25, none, [], .call 12008 4 true (.f 14) [.t 24]⟩,
      ⟨some 22, none, [], .p (.mv (.t 25))⟩,
      ⟨some 26, none, [], .p (.extract (.t 22) 0)⟩,
      ⟨some 27, none, [], .p (.extract (.t 22) 1)⟩,
      ⟨some 9, none, [], .p (.mv (.t 26))⟩,
      ⟨some 10, none, [], .p (.mv (.t 27))⟩]) (
  .seq (
    .region [
      ⟨some 28, none, [], .call 16000 4 true (.f 15) []⟩,
      ⟨some 29, none, [], .p (.mv (.t 28))⟩,
      ⟨some 30, some (29, true), [], .p (.mv (.t 0))⟩,
      ⟨some 31, some (29, true), [], .p (.mv (.t 1))⟩,
      ⟨some 32, some (29, true), [], .call 16016 4 true (.f 17) [.t 30, .t 31]⟩,
      ⟨some 33, some (29, true), [], .p (.mv (.t 1))⟩,
      ⟨some 34, some (29, true), [], .call 16024 4 true (.f 19) [.t 32, .t 33]⟩,
      ⟨some 35, some (29, true), [], .p (.mv (.t 0))⟩,
      ⟨some 36, some (29, true), [], .p (.bin .eql (.t 34) (.t 35))⟩,
      ⟨some 37, none, [], .p (.pick (.t 29) (.t 36) (.c (.bool false)))⟩,
      ⟨some 38, none, [], .p (.mv (.t 37))⟩,
      ⟨some 39, some (38, true), [], .p (.mv (.t 0))⟩,
      ⟨some 40, some (38, true), [], .p (.mv (.t 1))⟩,
      ⟨some 41, some (38, true), [], .call 16052 4 true (.f 17) [.t 39, .t 40]⟩,
      ⟨some 42, some (38, true), [], .p (.mv (.t 1))⟩,
      ⟨some 43, some (38, true), [], .p (.bin .and (.t 42) (.c (.int .i64 31)))⟩,
      ⟨some 44, some (38, true), [], .p (.bin .sub (.c (.int .i64 32)) (.t 43))⟩,
      ⟨some 45, some (38, true), [], .call 16068 4 true (.f 17) [.t 41, .t 44]⟩,
      ⟨some 46, some (38, true), [], .p (.mv (.t 0))⟩,
      ⟨some 47, some (38, true), [], .p (.bin .eql (.t 45) (.t 46))⟩,
      ⟨some 48, none, [], .p (.pick (.t 38) (.t 47) (.c (.bool false)))⟩,
      ⟨some 49, none, [], .p (.mv (.t 48))⟩,
      ⟨some 50, some (49, true), [], .p (.mv (.t 8))⟩,
      ⟨some 51, some (49, true), [], .p (.bin .eql (.t 50) (.c (.int .i64 0)))⟩,
      ⟨some 52, none, [], .p (.pick (.t 49) (.t 51) (.c (.bool false)))⟩,
      ⟨some 53, none, [], .p (.mv (.t 52))⟩,
      ⟨some 54, some (53, true), [], .p (.mv (.t 10))⟩,
      ⟨some 55, some (53, true), [], .p (.bin .eql (.t 54) (.c (.int .i64 0)))⟩,
      ⟨some 56, none, [], .p (.pick (.t 53) (.t 55) (.c (.bool false)))⟩,
      ⟨some 57, none, [], .p (.mv (.t 56))⟩,
      ⟨some 58, some (57, true), [], .p (.mv (.t 7))⟩,
      ⟨some 59, some (57, true), [], .p (.mv (.t 2))⟩,
      ⟨some 60, some (57, true), [], .call 16128 4 true (.f 16) [.t 58, .t 59]⟩,
      ⟨some 61, none, [], .p (.pick (.t 57) (.t 60) (.c (.bool false)))⟩,
      ⟨some 62, none, [], .p (.mv (.t 61))⟩,
      ⟨some 63, some (62, true), [], .p (.mv (.t 9))⟩,
      ⟨some 64, some (62, true), [], .p (.mv (.t 2))⟩,
      ⟨some 65, some (62, true), [], .call 16148 4 true (.f 16) [.t 63, .t 64]⟩,
      ⟨some 66, none, [], .p (.pick (.t 62) (.t 65) (.c (.bool false)))⟩,
      ⟨some 6, none, [], .p (.mv (.t 66))⟩]) (
  .ret))))),
  67, [Sum.inl 6]⟩

theorem c9 : cFunc Try.prog quiet Try.f9 [] = some s9 := by kernel_rfl

-- 10 calls []
abbrev k10_0 : List Nat := [0, 1, 5, 14, 15]
abbrev a10_0 : List Nat := [5]
abbrev e10_0 (v0 v1 v5 v14 v15 : AV) : Env := [v0, v1, .dead, .dead, .dead, v5, .dead, .dead, .dead, .dead, .dead, .dead, .dead, .dead, v14, v15, .dead, .dead, .dead, .dead, .dead, .dead, .dead, .dead, .dead, .dead, .dead, .dead, .dead, .dead, .dead]
abbrev x10_0 (v5 : AV) : Env := [.dead, .dead, .dead, .dead, .dead, v5, .dead, .dead, .dead, .dead, .dead, .dead, .dead, .dead, .dead, .dead, .dead, .dead, .dead, .dead, .dead, .dead, .dead, .dead, .dead, .dead, .dead, .dead, .dead, .dead, .dead]
def s10_b0 : SCode :=
  .seq (
    .region [
      ⟨some 16, none, [], .p (.bin .lss (.t 15) (.t 14))⟩]) (
  .seq (
    .cond (.t 16) (
      .skip) (
      .exit 0)) (
  .seq (
    .block 1 (
      .seq (
        .region [
          ⟨some 17, none, [], .p (.mv (.t 15))⟩,
          ⟨some 6, none, [], .p (.mv (.t 17))⟩]) (
      .region [
        ⟨some 18, none, [], .p (.mv (.t 5))⟩,
        ⟨some 19, none, [], .p (.mv (.t 6))⟩,
        ⟨some 20, none, [], .p (.mv (.t 0))⟩,
        ⟨some 21, none, [], .p (.mv (.t 6))⟩,
        ⟨some 22, none, [], .p (.idxStr (.t 20) (.t 21))⟩,
        ⟨some 23, none, [], .p (.mv (.t 1))⟩,
        ⟨some 24, none, [], .p (.mv (.t 6))⟩,
        ⟨some 25, none, [], .p (.idxStr (.t 23) (.t 24))⟩,
        ⟨some 26, none, [], .p (.bin .xor (.t 22) (.t 25))⟩,
        ⟨some 27, none, [], .p (.iaddrS 1 (.t 18) (.t 19))⟩,
        ⟨none, none, [], .w (.store1 (.t 27) (.t 26))⟩]))) (
  .region [
    ⟨some 28, none, [], .p (.bin .add (.t 15) (.c (.int .i64 1)))⟩,
    ⟨some 15, none, [], .p (.mv (.t 28))⟩])))

def s10 : SFunc := ⟨
  .seq (
    .region [
      ⟨some 4, none, [], .p (.mv (.c (.str [])))⟩]) (
  .seq (
    .region [
      ⟨some 7, none, [], .p (.mv (.t 0))⟩,
      ⟨some 8, none, [], .p (.lenV false (.t 7))⟩,
      ⟨some 9, none, [], .p (.mv (.t 1))⟩,
      ⟨some 10, none, [], .p (.lenV false (.t 9))⟩,
      ⟨some 11, none, [], .p (.minmax false (.t 8) (.t 10))⟩,
      ⟨some 12, none, [], .a 4020 (.mkSlice 1 1 [byteAV 0] (.t 11) (.t 11))⟩,
      ⟨some 5, none, [], .p (.mv (.t 12))⟩]) (
  .seq (
    .seq (
      .region [
        ⟨some 13, none, [], .p (.mv (.t 5))⟩,
        ⟨some 14, none, [], .p (.lenV true (.t 13))⟩,
        ⟨some 15, none, [], .p (.mv (.c (.int .i64 0)))⟩]) (
    .block 0 (
      .loop k10_0 a10_0 s10_b0))) (
  .seq (
    .region [
      ⟨some 29, none, [], .p (.mv (.t 5))⟩,
      ⟨some 30, none, [], .r (.toStr (.t 29))⟩,
      ⟨some 4, none, [], .p (.mv (.t 30))⟩]) (
  .ret)))),
  31, [Sum.inl 4]⟩

theorem c10 : cFunc Try.prog quiet Try.f10 [[0, 1, 5, 14, 15], [5]] = some s10 := by kernel_rfl

-- 11 calls [24]
abbrev k11_0 : List Nat := [0, 1, 5, 6]
abbrev a11_0 : List Nat := [5]
abbrev e11_0 (v0 v1 v5 v6 : AV) : Env := [v0, v1, .dead, .dead, .dead, v5, v6, .dead, .dead, .dead, .dead, .dead, .dead, .dead, .dead, .dead, .dead, .dead, .dead, .dead, .dead, .dead, .dead, .dead, .dead, .dead, .dead, .dead, .dead, .dead, .dead, .dead, .dead]
abbrev x11_0 (v5 : AV) : Env := [.dead, .dead, .dead, .dead, .dead, v5, .dead, .dead, .dead, .dead, .dead, .dead, .dead, .dead, .dead, .dead, .dead, .dead, .dead, .dead, .dead, .dead, .dead, .dead, .dead, .dead, .dead, .dead, .dead, .dead, .dead, .dead, .dead]
def s11_b0 : SCode :=
  .seq (
    .seq (
      .region [
        ⟨some 8, none, [], .p (.mv (.t 6))⟩,
        ⟨some 9, none, [], .p (.mv (.t 0))⟩,
        ⟨some 10, none, [], .p (.lenV false (.t 9))⟩,
        ⟨some 11, none, [], .p (.bin .lss (.t 8) (.t 10))⟩,
        ⟨some 12, none, [], .p (.mv (.t 11))⟩,
        ⟨some 13, some (12, true), [], .p (.mv (.t 6))⟩,
        ⟨some 14, some (12, true), [], .p (.mv (.t 1))⟩,
        ⟨some 15, some (12, true), [], .p (.lenV false (.t 14))⟩,
        ⟨some 16, some (12, true), [], .p (.bin .lss (.t 13) (.t 15))⟩,
        ⟨some 17, none, [], .p (.pick (.t 12) (.t 16) (.c (.bool false)))⟩]) (
    .cond (.t 17) (
      .skip) (
      .exit 0))) (
  .seq (
    .block 1 (
      .seq (
        .region [
          ⟨some 20, none, [], .p (.mv (.t 0))⟩,
          ⟨some 21, none, [], .p (.mv (.t 6))⟩,
          ⟨some 22, none, [], .p (.idxStr (.t 20) (.t 21))⟩,
          ⟨some 23, none, [], .p (.mv (.t 1))⟩,
          ⟨some 24, none, [], .p (.mv (.t 6))⟩,
          ⟨some 25, none, [], .p (.idxStr (.t 23) (.t 24))⟩,
          ⟨some 26, none, [], .call 20024 4 true (.f 24) [.t 22, .t 25]⟩,
          ⟨some 7, none, [], .p (.mv (.t 26))⟩]) (
      .region [
        ⟨some 27, none, [], .p (.mv (.t 5))⟩,
        ⟨some 28, none, [], .p (.mv (.t 7))⟩,
        ⟨some 29, none, [], .a 24008 (.buildS 1 1 [byteAV 0] [(0, 1, .t 28)])⟩,
        ⟨some 30, none, [], .w (.append 24012 1 1 (.t 27) (.t 29))⟩,
        ⟨some 5, none, [], .p (.mv (.t 30))⟩]))) (
  .region [
    ⟨some 18, none, [], .p (.mv (.t 6))⟩,
    ⟨some 19, none, [], .p (.bin .add (.t 18) (.c (.int .i64 1)))⟩,
    ⟨some 6, none, [], .p (.mv (.t 19))⟩]))

def s11 : SFunc := ⟨
  .seq (
    .region [
      ⟨some 4, none, [], .p (.mv (.c (.str [])))⟩]) (
  .seq (
    .region [
      ⟨some 5, none, [], .p (.mv (.c (.slice none 0 0)))⟩]) (
  .seq (
    .seq (
      .region [
        ⟨some 6, none, [], .p (.mv (.c (.int .i64 0)))⟩]) (
    .block 0 (
      .loop k11_0 a11_0 s11_b0))) (
  .seq (
    .region [
      ⟨some 31, none, [], .p (.mv (.t 5))⟩,
      ⟨some 32, none, [], .r (.toStr (.t 31))⟩,
      ⟨some 4, none, [], .p (.mv (.t 32))⟩]) (
  .ret)))),
  33, [Sum.inl 4]⟩

theorem c11 : cFunc Try.prog quiet Try.f11 [[0, 1, 5, 6], [5]] = some s11 := by kernel_rfl

-- 12 calls [25, 26]
def s12 : SFunc := ⟨
  .seq (
    .region [
      ⟨some 2, none, [], .p (.mv (.c (.slice none 0 0)))⟩,
      ⟨some 3, none, [], .p (.mv (.c (.int .i64 0)))⟩]) (
  .seq (
    .region [
      ⟨some 4, none, [], .p (.mv (.t 0))⟩,
      ⟨some 5, none, [], .call 4004 4 true (.f 25) [.t 4, .f 26]⟩,
      ⟨some 6, none, [], .p (.extract (.t 5) 0)⟩,
      ⟨some 7, none, [], .p (.extract (.t 5) 1)⟩,
      ⟨some 2, none, [], .p (.mv (.t 6))⟩,
      ⟨some 3, none, [], .p (.mv (.t 7))⟩]) (
  .ret)),
  8, [Sum.inl 2, Sum.inl 3]⟩

theorem c12 : cFunc Try.prog quiet Try.f12 [] = some s12 := by kernel_rfl

-- 13 calls []
abbrev k13_1 : List Nat := [0, 1, 6, 7, 8, 9]
abbrev a13_1 : List Nat := [0, 1, 6, 7, 8]
abbrev e13_1 (v0 v1 v6 v7 v8 v9 : AV) : Env := [v0, v1, .dead, .dead, .dead, .dead, v6, v7, v8, v9, .dead, .dead, .dead, .dead, .dead, .dead, .dead, .dead, .dead, .dead, .dead, .dead, .dead, .dead, .dead, .dead, .dead, .dead, .dead, .dead, .dead, .dead, .dead, .dead, .dead, .dead, .dead, .dead, .dead, .dead, .dead, .dead, .dead, .dead, .dead]
abbrev x13_1 (v0 v1 v6 v7 v8 : AV) : Env := [v0, v1, .dead, .dead, .dead, .dead, v6, v7, v8, .dead, .dead, .dead, .dead, .dead, .dead, .dead, .dead, .dead, .dead, .dead, .dead, .dead, .dead, .dead, .dead, .dead, .dead, .dead, .dead, .dead, .dead, .dead, .dead, .dead, .dead, .dead, .dead, .dead, .dead, .dead, .dead, .dead, .dead, .dead, .dead]
def s13_b1 : SCode :=
  .seq (
    .seq (
      .region [
        ⟨some 21, none, [], .p (.mv (.t 9))⟩,
        ⟨some 22, none, [], .p (.bin .lss (.t 21) (.c (.int .i64 4)))⟩]) (
    .cond (.t 22) (
      .skip) (
      .exit 2))) (
  .seq (
    .block 3 (
      .seq (
        .region [
          ⟨some 25, none, [], .p (.mv (.t 7))⟩,
          ⟨some 26, none, [], .p (.bin .add (.t 25) (.c (.int .i64 3)))⟩,
          ⟨some 27, none, [], .p (.mv (.t 9))⟩,
          ⟨some 28, none, [], .p (.bin .sub (.t 26) (.t 27))⟩,
          ⟨some 10, none, [], .p (.mv (.t 28))⟩]) (
      .seq (
        .seq (
          .region [
            ⟨some 29, none, [], .p (.mv (.t 1))⟩]) (
        .cond (.t 29) (
          .region [
            ⟨some 30, none, [], .p (.mv (.t 7))⟩,
            ⟨some 31, none, [], .p (.mv (.t 9))⟩,
            ⟨some 32, none, [], .p (.bin .add (.t 30) (.t 31))⟩,
            ⟨some 10, none, [], .p (.mv (.t 32))⟩]) (
          .skip))) (
      .region [
        ⟨some 33, none, [], .p (.mv (.t 8))⟩,
        ⟨some 34, none, [], .p (.bin .mul (.c (u32 256#32)) (.t 33))⟩,
        ⟨some 35, none, [], .p (.mv (.t 0))⟩,
        ⟨some 36, none, [], .p (.mv (.t 10))⟩,
        ⟨some 37, none, [], .p (.idxStr (.t 35) (.t 36))⟩,
        ⟨some 38, none, [], .p (.conv .u32 (.t 37))⟩,
        ⟨some 39, none, [], .p (.bin .add (.t 34) (.t 38))⟩,
        ⟨some 8, none, [], .p (.mv (.t 39))⟩])))) (
  .region [
    ⟨some 23, none, [], .p (.mv (.t 9))⟩,
    ⟨some 24, none, [], .p (.bin .add (.t 23) (.c (.int .i64 1)))⟩,
    ⟨some 9, none, [], .p (.mv (.t 24))⟩]))

abbrev k13_0 : List Nat := [0, 1, 6, 7]
abbrev a13_0 : List Nat := [6]
abbrev e13_0 (v0 v1 v6 v7 : AV) : Env := [v0, v1, .dead, .dead, .dead, .dead, v6, v7, .dead, .dead, .dead, .dead, .dead, .dead, .dead, .dead, .dead, .dead, .dead, .dead, .dead, .dead, .dead, .dead, .dead, .dead, .dead, .dead, .dead, .dead, .dead, .dead, .dead, .dead, .dead, .dead, .dead, .dead, .dead, .dead, .dead, .dead, .dead, .dead, .dead]
abbrev x13_0 (v6 : AV) : Env := [.dead, .dead, .dead, .dead, .dead, .dead, v6, .dead, .dead, .dead, .dead, .dead, .dead, .dead, .dead, .dead, .dead, .dead, .dead, .dead, .dead, .dead, .dead, .dead, .dead, .dead, .dead, .dead, .dead, .dead, .dead, .dead, .dead, .dead, .dead, .dead, .dead, .dead, .dead, .dead, .dead, .dead, .dead, .dead, .dead]
def s13_b0 : SCode :=
  .seq (
    .seq (
      .region [
        ⟨some 15, none, [], .p (.mv (.t 7))⟩,
        ⟨some 16, none, [], .p (.mv (.t 0))⟩,
        ⟨some 17, none, [], .p (.lenV false (.t 16))⟩,
        ⟨some 18, none, [], .p (.bin .lss (.t 15) (.t 17))⟩]) (
    .cond (.t 18) (
      .skip) (
      .exit 0))) (
  .seq (
    .block 1 (
      .seq (
        .region [
          ⟨some 8, none, [], .p (.mv (.c (u32 0#32)))⟩]) (
      .seq (
        .seq (
          .region [
            ⟨some 9, none, [], .p (.mv (.c (.int .i64 0)))⟩]) (
        .block 2 (
          .loop k13_1 a13_1 s13_b1))) (
      .region [
        ⟨some 40, none, [], .p (.mv (.t 6))⟩,
        ⟨some 41, none, [], .p (.mv (.t 8))⟩,
        ⟨some 42, none, [], .a 60008 (.buildS 1 1 [u32 0#32] [(0, 1, .t 41)])⟩,
        ⟨some 43, none, [], .w (.append 60012 1 4 (.t 40) (.t 42))⟩,
        ⟨some 6, none, [], .p (.mv (.t 43))⟩])))) (
  .region [
    ⟨some 19, none, [], .p (.mv (.t 7))⟩,
    ⟨some 20, none, [], .p (.bin .add (.t 19) (.c (.int .i64 4)))⟩,
    ⟨some 7, none, [], .p (.mv (.t 20))⟩]))

def s13 : SFunc := ⟨
  .seq (
    .region [
      ⟨some 4, none, [], .p (.mv (.c (.slice none 0 0)))⟩,
      ⟨some 5, none, [], .p (.mv (.c (.int .i64 0)))⟩]) (
  .seq (
    .seq (
      .region [
        ⟨some 11, none, [], .p (.mv (.t 0))⟩,
        ⟨some 12, none, [], .p (.lenV false (.t 11))⟩,
        ⟨some 13, none, [], .p (.bin .rem (.t 12) (.c (.int .i64 4)))⟩,
        ⟨some 14, none, [], .p (.bin .neq (.t 13) (.c (.int .i64 0)))⟩]) (
    .cond (.t 14) (
      .seq (
        .region [
          ⟨some 4, none, [], .p (.mv (.c (.slice none 0 0)))⟩,
          ⟨some 5, none, [], .p (.mv (.c (.int .i64 7)))⟩]) (
      .ret)) (
      .skip))) (
  .seq (
    .region [
      ⟨some 6, none, [], .p (.mv (.c (.slice none 0 0)))⟩]) (
  .seq (
    .seq (
      .region [
        ⟨some 7, none, [], .p (.mv (.c (.int .i64 0)))⟩]) (
    .block 0 (
      .loop k13_0 a13_0 s13_b0))) (
  .seq (
    .region [
      ⟨some 44, none, [], .p (.mv (.t 6))⟩,
      ⟨some 4, none, [], .p (.mv (.t 44))⟩,
      ⟨some 5, none, [], .p (.mv (.c (.int .i64 0)))⟩]) (
  .ret))))),
  45, [Sum.inl 4, Sum.inl 5]⟩

theorem c13 : cFunc Try.prog quiet Try.f13 [[0, 1, 6, 7], [6], [0, 1, 6, 7, 8, 9], [0, 1, 6, 7, 8]] = some s13 := by kernel_rfl

-- 14 calls [25, 27]
def s14 : SFunc := ⟨
  .seq (
    .region [
      ⟨some 2, none, [], .p (.mv (.c (.slice none 0 0)))⟩,
      ⟨some 3, none, [], .p (.mv (.c (.int .i64 0)))⟩]) (
  .seq (
    .region [
      ⟨some 4, none, [], .p (.mv (.t 0))⟩,
      ⟨some 5, none, [], .call 4004 4 true (.f 25) [.t 4, .f 27]⟩,
      ⟨some 6, none, [], .p (.extract (.t 5) 0)⟩,
      ⟨some 7, none, [], .p (.extract (.t 5) 1)⟩,
      ⟨some 2, none, [], .p (.mv (.t 6))⟩,
      ⟨some 3, none, [], .p (.mv (.t 7))⟩]) (
  .ret)),
  8, [Sum.inl 2, Sum.inl 3]⟩

theorem c14 : cFunc Try.prog quiet Try.f14 [] = some s14 := by kernel_rfl

-- 15 calls [12, 14, 17]
def s15 : SFunc := ⟨
  .seq (
    .region [
      ⟨some 0, none, [], .p (.mv (.c (.bool false)))⟩]) (
  .seq (
    .region [
      ⟨some 6, none, [], .call 4000 4 true (.f 12) [.c (.str [1, 2, 3, 4])]⟩,
      ⟨some 5, none, [], .p (.mv (.t 6))⟩,
      ⟨some 7, none, [], .p (.extract (.t 5) 0)⟩,
      ⟨some 8, none, [], .p (.extract (.t 5) 1)⟩,
      ⟨some 1, none, [], .p (.mv (.t 7))⟩,
      ⟨some 2, none, [], .p (.mv (.t 8))⟩]) (
  .seq (
    .region [
      ⟨some 10, none, [], .call 8000 4 true (.f 14) [.c (.str [1, 2, 3, 4])]⟩,
      ⟨some 9, none, [], .p (.mv (.t 10))⟩,
      ⟨some 11, none, [], .p (.extract (.t 9) 0)⟩,
      ⟨some 12, none, [], .p (.extract (.t 9) 1)⟩,
      ⟨some 3, none, [], .p (.mv (.t 11))⟩,
      ⟨some 4, none, [], .p (.mv (.t 12))⟩]) (
  .seq (
    .region [
      ⟨some 13, none, [], .call 12000 4 true (.f 17) [.c (u32 2147483649#32), .c (.int .i64 1)]⟩,
      ⟨some 14, none, [], .p (.bin .eql (.t 13) (.c (u32 3#32)))⟩,
      ⟨some 15, none, [], .p (.mv (.t 14))⟩,
      ⟨some 16, some (15, true), [], .p (.mv (.t 2))⟩,
      ⟨some 17, some (15, true), [], .p (.bin .eql (.t 16) (.c (.int .i64 0)))⟩,
      ⟨some 18, none, [], .p (.pick (.t 15) (.t 17) (.c (.bool false)))⟩,
      ⟨some 19, none, [], .p (.mv (.t 18))⟩,
      ⟨some 20, some (19, true), [], .p (.mv (.t 4))⟩,
      ⟨some 21, some (19, true), [], .p (.bin .eql (.t 20) (.c (.int .i64 0)))⟩,
      ⟨some 22, none, [], .p (.pick (.t 19) (.t 21) (.c (.bool false)))⟩,
      ⟨some 23, none, [], .p (.mv (.t 22))⟩,
      ⟨some 24, some (23, true), [], .p (.mv (.t 1))⟩,
      ⟨some 25, some (23, true), [], .p (.lenV true (.t 24))⟩,
      ⟨some 26, some (23, true), [], .p (.bin .eql (.t 25) (.c (.int .i64 1)))⟩,
      ⟨some 27, none, [], .p (.pick (.t 23) (.t 26) (.c (.bool false)))⟩,
      ⟨some 28, none, [], .p (.mv (.t 27))⟩,
      ⟨some 29, some (28, true), [], .p (.mv (.t 3))⟩,
      ⟨some 30, some (28, true), [], .p (.lenV true (.t 29))⟩,
      ⟨some 31, some (28, true), [], .p (.bin .eql (.t 30) (.c (.int .i64 1)))⟩,
      ⟨some 32, none, [], .p (.pick (.t 28) (.t 31) (.c (.bool false)))⟩,
      ⟨some 33, none, [], .p (.mv (.t 32))⟩,
      ⟨some 34, some (33, true), [], .p (.mv (.t 1))⟩,
      ⟨some 35, some (33, true), [], .p (.iaddrS 1 (.t 34) (.c (.int .i64 0)))⟩,
      ⟨some 36, some (33, true), [], .r (.load1 (.t 35))⟩,
      ⟨some 37, some (33, true), [], .p (.bin .eql (.t 36) (.c (u32 67305985#32)))⟩,
      ⟨some 38, none, [], .p (.pick (.t 33) (.t 37) (.c (.bool false)))⟩,
      ⟨some 39, none, [], .p (.mv (.t 38))⟩,
      ⟨some 40, some (39, true), [], .p (.mv (.t 3))⟩,
      ⟨some 41, some (39, true), [], .p (.iaddrS 1 (.t 40) (.c (.int .i64 0)))⟩,
      ⟨some 42, some (39, true), [], .r (.load1 (.t 41))⟩,
      ⟨some 43, some (39, true), [], .p (.bin .eql (.t 42) (.c (u32 16909060#32)))⟩,
      ⟨some 44, none, [], .p (.pick (.t 39) (.t 43) (.c (.bool false)))⟩,
      ⟨some 0, none, [], .p (.mv (.t 44))⟩]) (
  .ret)))),
  45, [Sum.inl 0]⟩

theorem c15 : cFunc Try.prog quiet Try.f15 [] = some s15 := by kernel_rfl

-- 16 calls []
abbrev k16_0 : List Nat := [0, 1, 12, 13]
abbrev a16_0 : List Nat := [4]
abbrev e16_0 (v0 v1 v12 v13 : AV) : Env := [v0, v1, .dead, .dead, .dead, .dead, .dead, .dead, .dead, .dead, .dead, .dead, v12, v13, .dead, .dead, .dead, .dead, .dead, .dead, .dead, .dead, .dead, .dead, .dead, .dead]
abbrev x16_0 (v4 : AV) : Env := [.dead, .dead, .dead, .dead, v4, .dead, .dead, .dead, .dead, .dead, .dead, .dead, .dead, .dead, .dead, .dead, .dead, .dead, .dead, .dead, .dead, .dead, .dead, .dead, .dead, .dead]
def s16_b0 : SCode :=
  .seq (
    .region [
      ⟨some 14, none, [], .p (.bin .lss (.t 13) (.t 12))⟩]) (
  .seq (
    .cond (.t 14) (
      .skip) (
      .exit 0)) (
  .seq (
    .block 1 (
      .seq (
        .region [
          ⟨some 15, none, [], .p (.mv (.t 13))⟩,
          ⟨some 5, none, [], .p (.mv (.t 15))⟩]) (
      .seq (
        .region [
          ⟨some 16, none, [], .p (.mv (.t 0))⟩,
          ⟨some 17, none, [], .p (.mv (.t 5))⟩,
          ⟨some 18, none, [], .p (.iaddrS 1 (.t 16) (.t 17))⟩,
          ⟨some 19, none, [], .r (.load1 (.t 18))⟩,
          ⟨some 20, none, [], .p (.mv (.t 1))⟩,
          ⟨some 21, none, [], .p (.mv (.t 5))⟩,
          ⟨some 22, none, [], .p (.iaddrS 1 (.t 20) (.t 21))⟩,
          ⟨some 23, none, [], .r (.load1 (.t 22))⟩,
          ⟨some 24, none, [], .p (.bin .neq (.t 19) (.t 23))⟩]) (
      .cond (.t 24) (
        .seq (
          .region [
            ⟨some 4, none, [], .p (.mv (.c (.bool false)))⟩]) (
        .ret)) (
        .skip))))) (
  .region [
    ⟨some 25, none, [], .p (.bin .add (.t 13) (.c (.int .i64 1)))⟩,
    ⟨some 13, none, [], .p (.mv (.t 25))⟩])))

def s16 : SFunc := ⟨
  .seq (
    .region [
      ⟨some 4, none, [], .p (.mv (.c (.bool false)))⟩]) (
  .seq (
    .seq (
      .region [
        ⟨some 6, none, [], .p (.mv (.t 0))⟩,
        ⟨some 7, none, [], .p (.lenV true (.t 6))⟩,
        ⟨some 8, none, [], .p (.mv (.t 1))⟩,
        ⟨some 9, none, [], .p (.lenV true (.t 8))⟩,
        ⟨some 10, none, [], .p (.bin .neq (.t 7) (.t 9))⟩]) (
    .cond (.t 10) (
      .seq (
        .region [
          ⟨some 4, none, [], .p (.mv (.c (.bool false)))⟩]) (
      .ret)) (
      .skip))) (
  .seq (
    .seq (
      .region [
        ⟨some 11, none, [], .p (.mv (.t 0))⟩,
        ⟨some 12, none, [], .p (.lenV true (.t 11))⟩,
        ⟨some 13, none, [], .p (.mv (.c (.int .i64 0)))⟩]) (
    .block 0 (
      .loop k16_0 a16_0 s16_b0))) (
  .seq (
    .region [
      ⟨some 4, none, [], .p (.mv (.c (.bool true)))⟩]) (
  .ret)))),
  26, [Sum.inl 4]⟩

theorem c16 : cFunc Try.prog quiet Try.f16 [[0, 1, 12, 13], [4]] = some s16 := by kernel_rfl

-- 17 calls []
def s17 : SFunc := ⟨
  .seq (
    .region [
      ⟨some 4, none, [], .p (.mv (.c (u32 0#32)))⟩]) (
  .seq (
    .region [
      ⟨some 6, none, [], .p (.mv (.t 1))⟩,
      ⟨some 7, none, [], .p (.conv .u64 (.t 6))⟩,
      ⟨some 8, none, [], .p (.bin .rem (.t 7) (.c (u64 32#64)))⟩,
      ⟨some 5, none, [], .p (.mv (.t 8))⟩]) (
  .seq (
    .region [
      ⟨some 9, none, [], .p (.mv (.t 0))⟩,
      ⟨some 10, none, [], .p (.mv (.t 5))⟩,
      ⟨some 11, none, [], .p (.bin .shl (.t 9) (.t 10))⟩,
      ⟨some 12, none, [], .p (.mv (.t 0))⟩,
      ⟨some 13, none, [], .p (.mv (.t 5))⟩,
      ⟨some 14, none, [], .p (.bin .sub (.c (u64 32#64)) (.t 13))⟩,
      ⟨some 15, none, [], .p (.bin .shr (.t 12) (.t 14))⟩,
      ⟨some 16, none, [], .p (.bin .or (.t 11) (.t 15))⟩,
      ⟨some 4, none, [], .p (.mv (.t 16))⟩]) (
  .ret))),
  17, [Sum.inl 4]⟩

theorem c17 : cFunc Try.prog quiet Try.f17 [] = some s17 := by kernel_rfl

-- 18 calls []
abbrev k18_0 : List Nat := [0, 5, 6]
abbrev a18_0 : List Nat := [0]
abbrev e18_0 (v0 v5 v6 : AV) : Env := [v0, .dead, .dead, .dead, .dead, v5, v6, .dead, .dead, .dead, .dead, .dead, .dead, .dead, .dead, .dead, .dead, .dead, .dead, .dead, .dead, .dead, .dead, .dead, .dead, .dead]
abbrev x18_0 (v0 : AV) : Env := [v0, .dead, .dead, .dead, .dead, .dead, .dead, .dead, .dead, .dead, .dead, .dead, .dead, .dead, .dead, .dead, .dead, .dead, .dead, .dead, .dead, .dead, .dead, .dead, .dead, .dead]
def s18_b0 : SCode :=
  .seq (
    .seq (
      .region [
        ⟨some 14, none, [], .p (.mv (.t 6))⟩,
        ⟨some 15, none, [], .p (.mv (.t 5))⟩,
        ⟨some 16, none, [], .p (.bin .lss (.t 14) (.t 15))⟩]) (
    .cond (.t 16) (
      .skip) (
      .exit 0))) (
  .seq (
    .block 1 (
      .seq (
        .region [
          ⟨some 19, none, [], .p (.mv (.t 0))⟩,
          ⟨some 20, none, [], .p (.bin .quo (.t 19) (.c (u32 2147483648#32)))⟩,
          ⟨some 7, none, [], .p (.mv (.t 20))⟩]) (
      .region [
        ⟨some 21, none, [], .p (.mv (.t 0))⟩,
        ⟨some 22, none, [], .p (.bin .mul (.t 21) (.c (u32 2#32)))⟩,
        ⟨some 23, none, [], .p (.mv (.t 7))⟩,
        ⟨some 24, none, [], .p (.bin .add (.t 22) (.t 23))⟩,
        ⟨some 0, none, [], .p (.mv (.t 24))⟩]))) (
  .region [
    ⟨some 17, none, [], .p (.mv (.t 6))⟩,
    ⟨some 18, none, [], .p (.bin .add (.t 17) (.c (.int .i64 1)))⟩,
    ⟨some 6, none, [], .p (.mv (.t 18))⟩]))

def s18 : SFunc := ⟨
  .seq (
    .region [
      ⟨some 4, none, [], .p (.mv (.c (u32 0#32)))⟩]) (
  .seq (
    .region [
      ⟨some 8, none, [], .p (.mv (.t 1))⟩,
      ⟨some 9, none, [], .p (.bin .rem (.t 8) (.c (.int .i64 32)))⟩,
      ⟨some 5, none, [], .p (.mv (.t 9))⟩]) (
  .seq (
    .seq (
      .region [
        ⟨some 10, none, [], .p (.mv (.t 5))⟩,
        ⟨some 11, none, [], .p (.bin .lss (.t 10) (.c (.int .i64 0)))⟩]) (
    .cond (.t 11) (
      .region [
        ⟨some 12, none, [], .p (.mv (.t 5))⟩,
        ⟨some 13, none, [], .p (.bin .add (.t 12) (.c (.int .i64 32)))⟩,
        ⟨some 5, none, [], .p (.mv (.t 13))⟩]) (
      .skip))) (
  .seq (
    .seq (
      .region [
        ⟨some 6, none, [], .p (.mv (.c (.int .i64 0)))⟩]) (
    .block 0 (
      .loop k18_0 a18_0 s18_b0))) (
  .seq (
    .region [
      ⟨some 25, none, [], .p (.mv (.t 0))⟩,
      ⟨some 4, none, [], .p (.mv (.t 25))⟩]) (
  .ret))))),
  26, [Sum.inl 4]⟩

theorem c18 : cFunc Try.prog quiet Try.f18 [[0, 5, 6], [0]] = some s18 := by kernel_rfl

-- 19 calls [17]
def s19 : SFunc := ⟨
  .seq (
    .region [
      ⟨some 4, none, [], .p (.mv (.c (u32 0#32)))⟩]) (
  .seq (
    .region [
      ⟨some 5, none, [], .p (.mv (.t 0))⟩,
      ⟨some 6, none, [], .p (.mv (.t 1))⟩,
      ⟨some 7, none, [], .p (.conv .u64 (.t 6))⟩,
      ⟨some 8, none, [], .p (.bin .rem (.t 7) (.c (u64 32#64)))⟩,
      ⟨some 9, none, [], .p (.conv .i64 (.t 8))⟩,
      ⟨some 10, none, [], .p (.bin .sub (.c (.int .i64 32)) (.t 9))⟩,
      ⟨some 11, none, [], .call 4024 4 true (.f 17) [.t 5, .t 10]⟩,
      ⟨some 4, none, [], .p (.mv (.t 11))⟩]) (
  .ret)),
  12, [Sum.inl 4]⟩

theorem c19 : cFunc Try.prog quiet Try.f19 [] = some s19 := by kernel_rfl

-- 20 calls []
abbrev k20_0 : List Nat := [0, 5, 6]
abbrev a20_0 : List Nat := [0]
abbrev e20_0 (v0 v5 v6 : AV) : Env := [v0, .dead, .dead, .dead, .dead, v5, v6, .dead, .dead, .dead, .dead, .dead, .dead, .dead, .dead, .dead, .dead, .dead, .dead, .dead, .dead, .dead, .dead, .dead, .dead, .dead, .dead]
abbrev x20_0 (v0 : AV) : Env := [v0, .dead, .dead, .dead, .dead, .dead, .dead, .dead, .dead, .dead, .dead, .dead, .dead, .dead, .dead, .dead, .dead, .dead, .dead, .dead, .dead, .dead, .dead, .dead, .dead, .dead, .dead]
def s20_b0 : SCode :=
  .seq (
    .seq (
      .region [
        ⟨some 14, none, [], .p (.mv (.t 6))⟩,
        ⟨some 15, none, [], .p (.mv (.t 5))⟩,
        ⟨some 16, none, [], .p (.bin .lss (.t 14) (.t 15))⟩]) (
    .cond (.t 16) (
      .skip) (
      .exit 0))) (
  .seq (
    .block 1 (
      .seq (
        .region [
          ⟨some 19, none, [], .p (.mv (.t 0))⟩,
          ⟨some 20, none, [], .p (.bin .rem (.t 19) (.c (u32 2#32)))⟩,
          ⟨some 7, none, [], .p (.mv (.t 20))⟩]) (
      .region [
        ⟨some 21, none, [], .p (.mv (.t 0))⟩,
        ⟨some 22, none, [], .p (.bin .quo (.t 21) (.c (u32 2#32)))⟩,
        ⟨some 23, none, [], .p (.mv (.t 7))⟩,
        ⟨some 24, none, [], .p (.bin .mul (.t 23) (.c (u32 2147483648#32)))⟩,
        ⟨some 25, none, [], .p (.bin .add (.t 22) (.t 24))⟩,
        ⟨some 0, none, [], .p (.mv (.t 25))⟩]))) (
  .region [
    ⟨some 17, none, [], .p (.mv (.t 6))⟩,
    ⟨some 18, none, [], .p (.bin .add (.t 17) (.c (.int .i64 1)))⟩,
    ⟨some 6, none, [], .p (.mv (.t 18))⟩]))

def s20 : SFunc := ⟨
  .seq (
    .region [
      ⟨some 4, none, [], .p (.mv (.c (u32 0#32)))⟩]) (
  .seq (
    .region [
      ⟨some 8, none, [], .p (.mv (.t 1))⟩,
      ⟨some 9, none, [], .p (.bin .rem (.t 8) (.c (.int .i64 32)))⟩,
      ⟨some 5, none, [], .p (.mv (.t 9))⟩]) (
  .seq (
    .seq (
      .region [
        ⟨some 10, none, [], .p (.mv (.t 5))⟩,
        ⟨some 11, none, [], .p (.bin .lss (.t 10) (.c (.int .i64 0)))⟩]) (
    .cond (.t 11) (
      .region [
        ⟨some 12, none, [], .p (.mv (.t 5))⟩,
        ⟨some 13, none, [], .p (.bin .add (.t 12) (.c (.int .i64 32)))⟩,
        ⟨some 5, none, [], .p (.mv (.t 13))⟩]) (
      .skip))) (
  .seq (
    .seq (
      .region [
        ⟨some 6, none, [], .p (.mv (.c (.int .i64 0)))⟩]) (
    .block 0 (
      .loop k20_0 a20_0 s20_b0))) (
  .seq (
    .region [
      ⟨some 26, none, [], .p (.mv (.t 0))⟩,
      ⟨some 4, none, [], .p (.mv (.t 26))⟩]) (
  .ret))))),
  27, [Sum.inl 4]⟩

theorem c20 : cFunc Try.prog quiet Try.f20 [[0, 5, 6], [0]] = some s20 := by kernel_rfl

-- 21 calls []
abbrev k21_0 : List Nat := [3, 10, 11, 12]
abbrev a21_0 : List Nat := [3]
abbrev e21_0 (v3 v10 v11 v12 : AV) : Env := [.dead, .dead, .dead, v3, .dead, .dead, .dead, .dead, .dead, .dead, v10, v11, v12, .dead, .dead, .dead, .dead, .dead, .dead, .dead, .dead, .dead, .dead, .dead, .dead, .dead, .dead, .dead, .dead, .dead, .dead, .dead, .dead]
abbrev x21_0 (v3 : AV) : Env := [.dead, .dead, .dead, v3, .dead, .dead, .dead, .dead, .dead, .dead, .dead, .dead, .dead, .dead, .dead, .dead, .dead, .dead, .dead, .dead, .dead, .dead, .dead, .dead, .dead, .dead, .dead, .dead, .dead, .dead, .dead, .dead, .dead]
def s21_b0 : SCode :=
  .seq (
    .region [
      ⟨some 13, none, [], .p (.bin .lss (.t 12) (.t 11))⟩]) (
  .seq (
    .cond (.t 13) (
      .skip) (
      .exit 0)) (
  .seq (
    .block 1 (
      .seq (
        .region [
          ⟨some 14, none, [], .p (.iaddrS 1 (.t 10) (.t 12))⟩,
          ⟨some 15, none, [], .r (.load1 (.t 14))⟩,
          ⟨some 5, none, [], .p (.mv (.t 15))⟩]) (
      .region [
        ⟨some 16, none, [], .p (.mv (.t 3))⟩,
        ⟨some 17, none, [], .p (.mv (.t 5))⟩,
        ⟨some 18, none, [], .p (.conv .u8 (.t 17))⟩,
        ⟨some 19, none, [], .p (.mv (.t 5))⟩,
        ⟨some 20, none, [], .p (.bin .shr (.t 19) (.c (u64 8#64)))⟩,
        ⟨some 21, none, [], .p (.conv .u8 (.t 20))⟩,
        ⟨some 22, none, [], .p (.mv (.t 5))⟩,
        ⟨some 23, none, [], .p (.bin .shr (.t 22) (.c (u64 16#64)))⟩,
        ⟨some 24, none, [], .p (.conv .u8 (.t 23))⟩,
        ⟨some 25, none, [], .p (.mv (.t 5))⟩,
        ⟨some 26, none, [], .p (.bin .shr (.t 25) (.c (u64 24#64)))⟩,
        ⟨some 27, none, [], .p (.conv .u8 (.t 26))⟩,
        ⟨some 28, none, [], .a 20048 (.buildS 1 4 [byteAV 0] [(0, 1, .t 18), (1, 1, .t 21), (2, 1, .t 24), (3, 1, .t 27)])⟩,
        ⟨some 29, none, [], .w (.append 20052 1 1 (.t 16) (.t 28))⟩,
        ⟨some 3, none, [], .p (.mv (.t 29))⟩]))) (
  .region [
    ⟨some 30, none, [], .p (.bin .add (.t 12) (.c (.int .i64 1)))⟩,
    ⟨some 12, none, [], .p (.mv (.t 30))⟩])))

def s21 : SFunc := ⟨
  .seq (
    .region [
      ⟨some 2, none, [], .p (.mv (.c (.str [])))⟩]) (
  .seq (
    .region [
      ⟨some 6, none, [], .p (.mv (.t 0))⟩,
      ⟨some 7, none, [], .p (.lenV true (.t 6))⟩,
      ⟨some 8, none, [], .p (.bin .mul (.c (.int .i64 4)) (.t 7))⟩,
      ⟨some 9, none, [], .a 4012 (.mkSlice 1 1 [byteAV 0] (.c (.int .i64 0)) (.t 8))⟩,
      ⟨some 3, none, [], .p (.mv (.t 9))⟩]) (
  .seq (
    .seq (
      .region [
        ⟨some 10, none, [], .p (.mv (.t 0))⟩,
        ⟨some 11, none, [], .p (.lenV true (.t 10))⟩,
        ⟨some 12, none, [], .p (.mv (.c (.int .i64 0)))⟩]) (
    .block 0 (
      .loop k21_0 a21_0 s21_b0))) (
  .seq (
    .region [
      ⟨some 31, none, [], .p (.mv (.t 3))⟩,
      ⟨some 32, none, [], .r (.toStr (.t 31))⟩,
      ⟨some 2, none, [], .p (.mv (.t 32))⟩]) (
  .ret)))),
  33, [Sum.inl 2]⟩

theorem c21 : cFunc Try.prog quiet Try.f21 [[3, 10, 11, 12], [3]] = some s21 := by kernel_rfl

-- 22 calls []
abbrev k22_2 : List Nat := [0, 1, 5, 6, 7, 11]
abbrev a22_2 : List Nat := [0, 1, 5, 6]
abbrev e22_2 (v0 v1 v5 v6 v7 v11 : AV) : Env := [v0, v1, .dead, .dead, .dead, v5, v6, v7, .dead, .dead, .dead, v11, .dead, .dead, .dead, .dead, .dead, .dead, .dead, .dead, .dead, .dead, .dead, .dead, .dead, .dead, .dead, .dead, .dead, .dead, .dead, .dead, .dead, .dead, .dead, .dead, .dead, .dead, .dead, .dead, .dead, .dead, .dead, .dead, .dead, .dead, .dead, .dead, .dead]
abbrev x22_2 (v0 v1 v5 v6 : AV) : Env := [v0, v1, .dead, .dead, .dead, v5, v6, .dead, .dead, .dead, .dead, .dead, .dead, .dead, .dead, .dead, .dead, .dead, .dead, .dead, .dead, .dead, .dead, .dead, .dead, .dead, .dead, .dead, .dead, .dead, .dead, .dead, .dead, .dead, .dead, .dead, .dead, .dead, .dead, .dead, .dead, .dead, .dead, .dead, .dead, .dead, .dead, .dead, .dead]
def s22_b2 : SCode :=
  .seq (
    .seq (
      .region [
        ⟨some 37, none, [], .p (.mv (.t 11))⟩,
        ⟨some 38, none, [], .p (.bin .lss (.t 37) (.c (.int .i64 4)))⟩]) (
    .cond (.t 38) (
      .skip) (
      .exit 4))) (
  .seq (
    .block 5 (
      .region [
        ⟨some 41, none, [], .p (.mv (.t 5))⟩,
        ⟨some 42, none, [], .p (.mv (.t 11))⟩,
        ⟨some 43, none, [], .p (.iaddrA 4 1 (.t 7) (.t 42))⟩,
        ⟨some 44, none, [], .r (.load1 (.t 43))⟩,
        ⟨some 45, none, [], .a 72016 (.buildS 1 1 [byteAV 0] [(0, 1, .t 44)])⟩,
        ⟨some 46, none, [], .w (.append 72020 1 1 (.t 41) (.t 45))⟩,
        ⟨some 5, none, [], .p (.mv (.t 46))⟩])) (
  .region [
    ⟨some 39, none, [], .p (.mv (.t 11))⟩,
    ⟨some 40, none, [], .p (.bin .add (.t 39) (.c (.int .i64 1)))⟩,
    ⟨some 11, none, [], .p (.mv (.t 40))⟩]))

abbrev k22_1 : List Nat := [0, 1, 5, 6, 7, 8, 9]
abbrev a22_1 : List Nat := [0, 1, 5, 6, 7]
abbrev e22_1 (v0 v1 v5 v6 v7 v8 v9 : AV) : Env := [v0, v1, .dead, .dead, .dead, v5, v6, v7, v8, v9, .dead, .dead, .dead, .dead, .dead, .dead, .dead, .dead, .dead, .dead, .dead, .dead, .dead, .dead, .dead, .dead, .dead, .dead, .dead, .dead, .dead, .dead, .dead, .dead, .dead, .dead, .dead, .dead, .dead, .dead, .dead, .dead, .dead, .dead, .dead, .dead, .dead, .dead, .dead]
abbrev x22_1 (v0 v1 v5 v6 v7 : AV) : Env := [v0, v1, .dead, .dead, .dead, v5, v6, v7, .dead, .dead, .dead, .dead, .dead, .dead, .dead, .dead, .dead, .dead, .dead, .dead, .dead, .dead, .dead, .dead, .dead, .dead, .dead, .dead, .dead, .dead, .dead, .dead, .dead, .dead, .dead, .dead, .dead, .dead, .dead, .dead, .dead, .dead, .dead, .dead, .dead, .dead, .dead, .dead, .dead]
def s22_b1 : SCode :=
  .seq (
    .seq (
      .region [
        ⟨some 22, none, [], .p (.mv (.t 9))⟩,
        ⟨some 23, none, [], .p (.bin .lss (.t 22) (.c (.int .i64 4)))⟩]) (
    .cond (.t 23) (
      .skip) (
      .exit 2))) (
  .seq (
    .block 3 (
      .seq (
        .region [
          ⟨some 26, none, [], .p (.mv (.t 9))⟩,
          ⟨some 10, none, [], .p (.mv (.t 26))⟩]) (
      .seq (
        .seq (
          .region [
            ⟨some 27, none, [], .p (.mv (.t 1))⟩]) (
        .cond (.t 27) (
          .region [
            ⟨some 28, none, [], .p (.mv (.t 9))⟩,
            ⟨some 29, none, [], .p (.bin .sub (.c (.int .i64 3)) (.t 28))⟩,
            ⟨some 10, none, [], .p (.mv (.t 29))⟩]) (
          .skip))) (
      .seq (
        .region [
          ⟨some 30, none, [], .p (.mv (.t 10))⟩,
          ⟨some 31, none, [], .p (.mv (.t 8))⟩,
          ⟨some 32, none, [], .p (.bin .rem (.t 31) (.c (u32 256#32)))⟩,
          ⟨some 33, none, [], .p (.conv .u8 (.t 32))⟩,
          ⟨some 34, none, [], .p (.iaddrA 4 1 (.t 7) (.t 30))⟩,
          ⟨none, none, [], .w (.store1 (.t 34) (.t 33))⟩]) (
      .region [
        ⟨some 35, none, [], .p (.mv (.t 8))⟩,
        ⟨some 36, none, [], .p (.bin .quo (.t 35) (.c (u32 256#32)))⟩,
        ⟨some 8, none, [], .p (.mv (.t 36))⟩]))))) (
  .region [
    ⟨some 24, none, [], .p (.mv (.t 9))⟩,
    ⟨some 25, none, [], .p (.bin .add (.t 24) (.c (.int .i64 1)))⟩,
    ⟨some 9, none, [], .p (.mv (.t 25))⟩]))

abbrev k22_0 : List Nat := [0, 1, 5, 6]
abbrev a22_0 : List Nat := [5]
abbrev e22_0 (v0 v1 v5 v6 : AV) : Env := [v0, v1, .dead, .dead, .dead, v5, v6, .dead, .dead, .dead, .dead, .dead, .dead, .dead, .dead, .dead, .dead, .dead, .dead, .dead, .dead, .dead, .dead, .dead, .dead, .dead, .dead, .dead, .dead, .dead, .dead, .dead, .dead, .dead, .dead, .dead, .dead, .dead, .dead, .dead, .dead, .dead, .dead, .dead, .dead, .dead, .dead, .dead, .dead]
abbrev x22_0 (v5 : AV) : Env := [.dead, .dead, .dead, .dead, .dead, v5, .dead, .dead, .dead, .dead, .dead, .dead, .dead, .dead, .dead, .dead, .dead, .dead, .dead, .dead, .dead, .dead, .dead, .dead, .dead, .dead, .dead, .dead, .dead, .dead, .dead, .dead, .dead, .dead, .dead, .dead, .dead, .dead, .dead, .dead, .dead, .dead, .dead, .dead, .dead, .dead, .dead, .dead, .dead]
def s22_b0 : SCode :=
  .seq (
    .seq (
      .region [
        ⟨some 12, none, [], .p (.mv (.t 6))⟩,
        ⟨some 13, none, [], .p (.mv (.t 0))⟩,
        ⟨some 14, none, [], .p (.lenV true (.t 13))⟩,
        ⟨some 15, none, [], .p (.bin .lss (.t 12) (.t 14))⟩]) (
    .cond (.t 15) (
      .skip) (
      .exit 0))) (
  .seq (
    .block 1 (
      .seq (
        .region [
          ⟨some 7, none, [], .a 20000 (.alloc [byteAV 0, byteAV 0, byteAV 0, byteAV 0])⟩]) (
      .seq (
        .region [
          ⟨some 18, none, [], .p (.mv (.t 0))⟩,
          ⟨some 19, none, [], .p (.mv (.t 6))⟩,
          ⟨some 20, none, [], .p (.iaddrS 1 (.t 18) (.t 19))⟩,
          ⟨some 21, none, [], .r (.load1 (.t 20))⟩,
          ⟨some 8, none, [], .p (.mv (.t 21))⟩]) (
      .seq (
        .seq (
          .region [
            ⟨some 9, none, [], .p (.mv (.c (.int .i64 0)))⟩]) (
        .block 2 (
          .loop k22_1 a22_1 s22_b1))) (
      .seq (
        .region [
          ⟨some 11, none, [], .p (.mv (.c (.int .i64 0)))⟩]) (
      .block 4 (
        .loop k22_2 a22_2 s22_b2))))))) (
  .region [
    ⟨some 16, none, [], .p (.mv (.t 6))⟩,
    ⟨some 17, none, [], .p (.bin .add (.t 16) (.c (.int .i64 1)))⟩,
    ⟨some 6, none, [], .p (.mv (.t 17))⟩]))

def s22 : SFunc := ⟨
  .seq (
    .region [
      ⟨some 4, none, [], .p (.mv (.c (.str [])))⟩]) (
  .seq (
    .region [
      ⟨some 5, none, [], .p (.mv (.c (.slice none 0 0)))⟩]) (
  .seq (
    .seq (
      .region [
        ⟨some 6, none, [], .p (.mv (.c (.int .i64 0)))⟩]) (
    .block 0 (
      .loop k22_0 a22_0 s22_b0))) (
  .seq (
    .region [
      ⟨some 47, none, [], .p (.mv (.t 5))⟩,
      ⟨some 48, none, [], .r (.toStr (.t 47))⟩,
      ⟨some 4, none, [], .p (.mv (.t 48))⟩]) (
  .ret)))),
  49, [Sum.inl 4]⟩

theorem c22 : cFunc Try.prog quiet Try.f22 [[0, 1, 5, 6], [5], [0, 1, 5, 6, 7, 8, 9], [0, 1, 5, 6, 7], [0, 1, 5, 6, 7, 11], [0, 1, 5, 6]] = some s22 := by kernel_rfl

-- 23 calls []
abbrev k23_0 : List Nat := [3, 10, 11, 12]
abbrev a23_0 : List Nat := [3]
abbrev e23_0 (v3 v10 v11 v12 : AV) : Env := [.dead, .dead, .dead, v3, .dead, .dead, .dead, .dead, .dead, .dead, v10, v11, v12, .dead, .dead, .dead, .dead, .dead, .dead, .dead, .dead, .dead, .dead, .dead, .dead, .dead, .dead, .dead, .dead, .dead, .dead, .dead, .dead]
abbrev x23_0 (v3 : AV) : Env := [.dead, .dead, .dead, v3, .dead, .dead, .dead, .dead, .dead, .dead, .dead, .dead, .dead, .dead, .dead, .dead, .dead, .dead, .dead, .dead, .dead, .dead, .dead, .dead, .dead, .dead, .dead, .dead, .dead, .dead, .dead, .dead, .dead]
def s23_b0 : SCode :=
  .seq (
    .region [
      ⟨some 13, none, [], .p (.bin .lss (.t 12) (.t 11))⟩]) (
  .seq (
    .cond (.t 13) (
      .skip) (
      .exit 0)) (
  .seq (
    .block 1 (
      .seq (
        .region [
          ⟨some 14, none, [], .p (.iaddrS 1 (.t 10) (.t 12))⟩,
          ⟨some 15, none, [], .r (.load1 (.t 14))⟩,
          ⟨some 5, none, [], .p (.mv (.t 15))⟩]) (
      .region [
        ⟨some 16, none, [], .p (.mv (.t 3))⟩,
        ⟨some 17, none, [], .p (.mv (.t 5))⟩,
        ⟨some 18, none, [], .p (.bin .shr (.t 17) (.c (u64 24#64)))⟩,
        ⟨some 19, none, [], .p (.conv .u8 (.t 18))⟩,
        ⟨some 20, none, [], .p (.mv (.t 5))⟩,
        ⟨some 21, none, [], .p (.bin .shr (.t 20) (.c (u64 16#64)))⟩,
        ⟨some 22, none, [], .p (.conv .u8 (.t 21))⟩,
        ⟨some 23, none, [], .p (.mv (.t 5))⟩,
        ⟨some 24, none, [], .p (.bin .shr (.t 23) (.c (u64 8#64)))⟩,
        ⟨some 25, none, [], .p (.conv .u8 (.t 24))⟩,
        ⟨some 26, none, [], .p (.mv (.t 5))⟩,
        ⟨some 27, none, [], .p (.conv .u8 (.t 26))⟩,
        ⟨some 28, none, [], .a 20048 (.buildS 1 4 [byteAV 0] [(0, 1, .t 19), (1, 1, .t 22), (2, 1, .t 25), (3, 1, .t 27)])⟩,
        ⟨some 29, none, [], .w (.append 20052 1 1 (.t 16) (.t 28))⟩,
        ⟨some 3, none, [], .p (.mv (.t 29))⟩]))) (
  .region [
    ⟨some 30, none, [], .p (.bin .add (.t 12) (.c (.int .i64 1)))⟩,
    ⟨some 12, none, [], .p (.mv (.t 30))⟩])))

def s23 : SFunc := ⟨
  .seq (
    .region [
      ⟨some 2, none, [], .p (.mv (.c (.str [])))⟩]) (
  .seq (
    .region [
      ⟨some 6, none, [], .p (.mv (.t 0))⟩,
      ⟨some 7, none, [], .p (.lenV true (.t 6))⟩,
      ⟨some 8, none, [], .p (.bin .mul (.c (.int .i64 4)) (.t 7))⟩,
      ⟨some 9, none, [], .a 4012 (.mkSlice 1 1 [byteAV 0] (.c (.int .i64 0)) (.t 8))⟩,
      ⟨some 3, none, [], .p (.mv (.t 9))⟩]) (
  .seq (
    .seq (
      .region [
        ⟨some 10, none, [], .p (.mv (.t 0))⟩,
        ⟨some 11, none, [], .p (.lenV true (.t 10))⟩,
        ⟨some 12, none, [], .p (.mv (.c (.int .i64 0)))⟩]) (
    .block 0 (
      .loop k23_0 a23_0 s23_b0))) (
  .seq (
    .region [
      ⟨some 31, none, [], .p (.mv (.t 3))⟩,
      ⟨some 32, none, [], .r (.toStr (.t 31))⟩,
      ⟨some 2, none, [], .p (.mv (.t 32))⟩]) (
  .ret)))),
  33, [Sum.inl 2]⟩

theorem c23 : cFunc Try.prog quiet Try.f23 [[3, 10, 11, 12], [3]] = some s23 := by kernel_rfl

-- 24 calls []
abbrev k24_0 : List Nat := [0, 1, 5, 6, 7]
abbrev a24_0 : List Nat := [5]
abbrev e24_0 (v0 v1 v5 v6 v7 : AV) : Env := [v0, v1, .dead, .dead, .dead, v5, v6, v7, .dead, .dead, .dead, .dead, .dead, .dead, .dead, .dead, .dead, .dead, .dead, .dead, .dead, .dead, .dead, .dead, .dead, .dead, .dead]
abbrev x24_0 (v5 : AV) : Env := [.dead, .dead, .dead, .dead, .dead, v5, .dead, .dead, .dead, .dead, .dead, .dead, .dead, .dead, .dead, .dead, .dead, .dead, .dead, .dead, .dead, .dead, .dead, .dead, .dead, .dead, .dead]
def s24_b0 : SCode :=
  .seq (
    .seq (
      .region [
        ⟨some 8, none, [], .p (.mv (.t 7))⟩,
        ⟨some 9, none, [], .p (.bin .lss (.t 8) (.c (.int .i64 8)))⟩]) (
    .cond (.t 9) (
      .skip) (
      .exit 0))) (
  .seq (
    .block 1 (
      .seq (
        .seq (
          .region [
            ⟨some 12, none, [], .p (.mv (.t 0))⟩,
            ⟨some 13, none, [], .p (.bin .rem (.t 12) (.c (byteAV 2)))⟩,
            ⟨some 14, none, [], .p (.mv (.t 1))⟩,
            ⟨some 15, none, [], .p (.bin .rem (.t 14) (.c (byteAV 2)))⟩,
            ⟨some 16, none, [], .p (.bin .neq (.t 13) (.t 15))⟩]) (
        .cond (.t 16) (
          .region [
            ⟨some 17, none, [], .p (.mv (.t 5))⟩,
            ⟨some 18, none, [], .p (.mv (.t 6))⟩,
            ⟨some 19, none, [], .p (.bin .add (.t 17) (.t 18))⟩,
            ⟨some 5, none, [], .p (.mv (.t 19))⟩]) (
          .skip))) (
      .seq (
        .region [
          ⟨some 20, none, [], .p (.mv (.t 0))⟩,
          ⟨some 21, none, [], .p (.bin .quo (.t 20) (.c (byteAV 2)))⟩,
          ⟨some 0, none, [], .p (.mv (.t 21))⟩]) (
      .seq (
        .region [
          ⟨some 22, none, [], .p (.mv (.t 1))⟩,
          ⟨some 23, none, [], .p (.bin .quo (.t 22) (.c (byteAV 2)))⟩,
          ⟨some 1, none, [], .p (.mv (.t 23))⟩]) (
      .region [
        ⟨some 24, none, [], .p (.mv (.t 6))⟩,
        ⟨some 25, none, [], .p (.bin .mul (.c (byteAV 2)) (.t 24))⟩,
        ⟨some 6, none, [], .p (.mv (.t 25))⟩]))))) (
  .region [
    ⟨some 10, none, [], .p (.mv (.t 7))⟩,
    ⟨some 11, none, [], .p (.bin .add (.t 10) (.c (.int .i64 1)))⟩,
    ⟨some 7, none, [], .p (.mv (.t 11))⟩]))

def s24 : SFunc := ⟨
  .seq (
    .region [
      ⟨some 4, none, [], .p (.mv (.c (byteAV 0)))⟩]) (
  .seq (
    .region [
      ⟨some 5, none, [], .p (.mv (.c (byteAV 0)))⟩]) (
  .seq (
    .region [
      ⟨some 6, none, [], .p (.mv (.c (byteAV 1)))⟩]) (
  .seq (
    .seq (
      .region [
        ⟨some 7, none, [], .p (.mv (.c (.int .i64 0)))⟩]) (
    .block 0 (
      .loop k24_0 a24_0 s24_b0))) (
  .seq (
    .region [
      ⟨some 26, none, [], .p (.mv (.t 5))⟩,
      ⟨some 4, none, [], .p (.mv (.t 26))⟩]) (
  .ret))))),
  27, [Sum.inl 4]⟩

theorem c24 : cFunc Try.prog quiet Try.f24 [[0, 1, 5, 6, 7], [5]] = some s24 := by kernel_rfl

-- 25 calls []
abbrev k25_0 : List Nat := [0, 1, 6, 17, 18]
abbrev a25_0 : List Nat := [6]
abbrev e25_0 (v0 v1 v6 v17 v18 : AV) : Env := [v0, v1, .dead, .dead, .dead, .dead, v6, .dead, .dead, .dead, .dead, .dead, .dead, .dead, .dead, .dead, .dead, v17, v18, .dead, .dead, .dead, .dead, .dead, .dead, .dead, .dead, .dead, .dead, .dead, .dead, .dead, .dead, .dead, .dead, .dead, .dead, .dead, .dead, .dead, .dead, .dead, .dead, .dead, .dead, .dead, .dead, .dead, .dead, .dead, .dead]
abbrev x25_0 (v6 : AV) : Env := [.dead, .dead, .dead, .dead, .dead, .dead, v6, .dead, .dead, .dead, .dead, .dead, .dead, .dead, .dead, .dead, .dead, .dead, .dead, .dead, .dead, .dead, .dead, .dead, .dead, .dead, .dead, .dead, .dead, .dead, .dead, .dead, .dead, .dead, .dead, .dead, .dead, .dead, .dead, .dead, .dead, .dead, .dead, .dead, .dead, .dead, .dead, .dead, .dead, .dead, .dead]
def s25_b0 : SCode :=
  .seq (
    .region [
      ⟨some 19, none, [], .p (.bin .lss (.t 18) (.t 17))⟩]) (
  .seq (
    .cond (.t 19) (
      .skip) (
      .exit 0)) (
  .seq (
    .block 1 (
      .seq (
        .region [
          ⟨some 20, none, [], .p (.mv (.t 18))⟩,
          ⟨some 7, none, [], .p (.mv (.t 20))⟩]) (
      .region [
        ⟨some 21, none, [], .p (.mv (.t 6))⟩,
        ⟨some 22, none, [], .p (.mv (.t 7))⟩,
        ⟨some 23, none, [], .p (.mv (.t 1))⟩,
        ⟨some 24, none, [], .p (.mv (.t 0))⟩,
        ⟨some 25, none, [], .p (.mv (.t 7))⟩,
        ⟨some 26, none, [], .p (.bin .mul (.c (.int .i64 4)) (.t 25))⟩,
        ⟨some 27, none, [], .p (.idxStr (.t 24) (.t 26))⟩,
        ⟨some 28, none, [], .p (.conv .u32 (.t 27))⟩,
        ⟨some 29, none, [], .p (.mv (.t 0))⟩,
        ⟨some 30, none, [], .p (.mv (.t 7))⟩,
        ⟨some 31, none, [], .p (.bin .mul (.c (.int .i64 4)) (.t 30))⟩,
        ⟨some 32, none, [], .p (.bin .add (.t 31) (.c (.int .i64 1)))⟩,
        ⟨some 33, none, [], .p (.idxStr (.t 29) (.t 32))⟩,
        ⟨some 34, none, [], .p (.conv .u32 (.t 33))⟩,
        ⟨some 35, none, [], .p (.mv (.t 0))⟩,
        ⟨some 36, none, [], .p (.mv (.t 7))⟩,
        ⟨some 37, none, [], .p (.bin .mul (.c (.int .i64 4)) (.t 36))⟩,
        ⟨some 38, none, [], .p (.bin .add (.t 37) (.c (.int .i64 2)))⟩,
        ⟨some 39, none, [], .p (.idxStr (.t 35) (.t 38))⟩,
        ⟨some 40, none, [], .p (.conv .u32 (.t 39))⟩,
        ⟨some 41, none, [], .p (.mv (.t 0))⟩,
        ⟨some 42, none, [], .p (.mv (.t 7))⟩,
        ⟨some 43, none, [], .p (.bin .mul (.c (.int .i64 4)) (.t 42))⟩,
        ⟨some 44, none, [], .p (.bin .add (.t 43) (.c (.int .i64 3)))⟩,
        ⟨some 45, none, [], .p (.idxStr (.t 41) (.t 44))⟩,
        ⟨some 46, none, [], .p (.conv .u32 (.t 45))⟩,
        ⟨some 47, none, [], .call 28104 4 true (.t 23) [.t 28, .t 34, .t 40, .t 46]⟩,
        ⟨some 48, none, [], .p (.iaddrS 1 (.t 21) (.t 22))⟩,
        ⟨none, none, [], .w (.store1 (.t 48) (.t 47))⟩]))) (
  .region [
    ⟨some 49, none, [], .p (.bin .add (.t 18) (.c (.int .i64 1)))⟩,
    ⟨some 18, none, [], .p (.mv (.t 49))⟩])))

def s25 : SFunc := ⟨
  .seq (
    .region [
      ⟨some 4, none, [], .p (.mv (.c (.slice none 0 0)))⟩,
      ⟨some 5, none, [], .p (.mv (.c (.int .i64 0)))⟩]) (
  .seq (
    .seq (
      .region [
        ⟨some 8, none, [], .p (.mv (.t 0))⟩,
        ⟨some 9, none, [], .p (.lenV false (.t 8))⟩,
        ⟨some 10, none, [], .p (.bin .rem (.t 9) (.c (.int .i64 4)))⟩,
        ⟨some 11, none, [], .p (.bin .neq (.t 10) (.c (.int .i64 0)))⟩]) (
    .cond (.t 11) (
      .seq (
        .region [
          ⟨some 4, none, [], .p (.mv (.c (.slice none 0 0)))⟩,
          ⟨some 5, none, [], .p (.mv (.c (.int .i64 7)))⟩]) (
      .ret)) (
      .skip))) (
  .seq (
    .region [
      ⟨some 12, none, [], .p (.mv (.t 0))⟩,
      ⟨some 13, none, [], .p (.lenV false (.t 12))⟩,
      ⟨some 14, none, [], .p (.bin .quo (.t 13) (.c (.int .i64 4)))⟩,
      ⟨some 15, none, [], .a 12012 (.mkSlice 1 4 [u32 0#32] (.t 14) (.t 14))⟩,
      ⟨some 6, none, [], .p (.mv (.t 15))⟩]) (
  .seq (
    .seq (
      .region [
        ⟨some 16, none, [], .p (.mv (.t 6))⟩,
        ⟨some 17, none, [], .p (.lenV true (.t 16))⟩,
        ⟨some 18, none, [], .p (.mv (.c (.int .i64 0)))⟩]) (
    .block 0 (
      .loop k25_0 a25_0 s25_b0))) (
  .seq (
    .region [
      ⟨some 50, none, [], .p (.mv (.t 6))⟩,
      ⟨some 4, none, [], .p (.mv (.t 50))⟩,
      ⟨some 5, none, [], .p (.mv (.c (.int .i64 0)))⟩]) (
  .ret))))),
  51, [Sum.inl 4, Sum.inl 5]⟩

theorem c25 : cFunc Try.prog quiet Try.f25 [[0, 1, 6, 17, 18], [6]] = some s25 := by kernel_rfl

-- 26 calls []
def s26 : SFunc := ⟨
  .seq (
    .region [
      ⟨some 8, none, [], .p (.mv (.c (u32 0#32)))⟩]) (
  .seq (
    .region [
      ⟨some 9, none, [], .p (.mv (.t 0))⟩,
      ⟨some 10, none, [], .p (.mv (.t 1))⟩,
      ⟨some 11, none, [], .p (.bin .shl (.t 10) (.c (u64 8#64)))⟩,
      ⟨some 12, none, [], .p (.bin .or (.t 9) (.t 11))⟩,
      ⟨some 13, none, [], .p (.mv (.t 2))⟩,
      ⟨some 14, none, [], .p (.bin .shl (.t 13) (.c (u64 16#64)))⟩,
      ⟨some 15, none, [], .p (.bin .or (.t 12) (.t 14))⟩,
      ⟨some 16, none, [], .p (.mv (.t 3))⟩,
      ⟨some 17, none, [], .p (.bin .shl (.t 16) (.c (u64 24#64)))⟩,
      ⟨some 18, none, [], .p (.bin .or (.t 15) (.t 17))⟩,
      ⟨some 8, none, [], .p (.mv (.t 18))⟩]) (
  .ret)),
  19, [Sum.inl 8]⟩

theorem c26 : cFunc Try.prog quiet Try.f26 [] = some s26 := by kernel_rfl

-- 27 calls []
def s27 : SFunc := ⟨
  .seq (
    .region [
      ⟨some 8, none, [], .p (.mv (.c (u32 0#32)))⟩]) (
  .seq (
    .region [
      ⟨some 9, none, [], .p (.mv (.t 0))⟩,
      ⟨some 10, none, [], .p (.bin .shl (.t 9) (.c (u64 24#64)))⟩,
      ⟨some 11, none, [], .p (.mv (.t 1))⟩,
      ⟨some 12, none, [], .p (.bin .shl (.t 11) (.c (u64 16#64)))⟩,
      ⟨some 13, none, [], .p (.bin .or (.t 10) (.t 12))⟩,
      ⟨some 14, none, [], .p (.mv (.t 2))⟩,
      ⟨some 15, none, [], .p (.bin .shl (.t 14) (.c (u64 8#64)))⟩,
      ⟨some 16, none, [], .p (.bin .or (.t 13) (.t 15))⟩,
      ⟨some 17, none, [], .p (.mv (.t 3))⟩,
      ⟨some 18, none, [], .p (.bin .or (.t 16) (.t 17))⟩,
      ⟨some 8, none, [], .p (.mv (.t 18))⟩]) (
  .ret)),
  19, [Sum.inl 8]⟩

theorem c27 : cFunc Try.prog quiet Try.f27 [] = some s27 := by kernel_rfl

def SP : SProg := tabP [(3, s3), (4, s4), (5, s5), (6, s6), (7, s7), (8, s8), (9, s9), (10, s10), (11, s11), (12, s12), (13, s13), (14, s14), (15, s15), (16, s16), (17, s17), (18, s18), (19, s19), (20, s20), (21, s21), (22, s22), (23, s23), (24, s24), (25, s25), (26, s26), (27, s27)]

theorem comp : Comp Try.prog SP := comp_of (by kernel_rfl) ⟨⟨quiet, _, _, Try.func3, c3⟩, ⟨quiet, _, _, Try.func4, c4⟩, ⟨quiet, _, _, Try.func5, c5⟩, ⟨quiet, _, _, Try.func6, c6⟩, ⟨quiet, _, _, Try.func7, c7⟩, ⟨quiet, _, _, Try.func8, c8⟩, ⟨quiet, _, _, Try.func9, c9⟩, ⟨quiet, _, _, Try.func10, c10⟩, ⟨quiet, _, _, Try.func11, c11⟩, ⟨quiet, _, _, Try.func12, c12⟩, ⟨quiet, _, _, Try.func13, c13⟩, ⟨quiet, _, _, Try.func14, c14⟩, ⟨quiet, _, _, Try.func15, c15⟩, ⟨quiet, _, _, Try.func16, c16⟩, ⟨quiet, _, _, Try.func17, c17⟩, ⟨quiet, _, _, Try.func18, c18⟩, ⟨quiet, _, _, Try.func19, c19⟩, ⟨quiet, _, _, Try.func20, c20⟩, ⟨quiet, _, _, Try.func21, c21⟩, ⟨quiet, _, _, Try.func22, c22⟩, ⟨quiet, _, _, Try.func23, c23⟩, ⟨quiet, _, _, Try.func24, c24⟩, ⟨quiet, _, _, Try.func25, c25⟩, ⟨quiet, _, _, Try.func26, c26⟩, ⟨quiet, _, _, Try.func27, c27⟩, trivial⟩

end Go.Proofs.Ytjaloajnlpepcaa
