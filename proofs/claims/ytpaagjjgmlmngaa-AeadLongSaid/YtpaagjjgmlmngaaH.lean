import Derived.Test.YtpaagjjgmlmngaaProg
import Derived.Test.YtpaagjjgmlmngaaDetQ
import Derived.KernelRfl
import Derived.Test.YtpaagjjgmlmngaaShelf
set_option maxRecDepth 100000
namespace Go.Proofs.Ytpaagjjgmlmngaa
open Go.Det

def quiet : Nat → Bool := (fun n => !([30, 31, 41, 51, 52, 56] : List Nat).contains n)

-- 9 calls [21, 22, 23, 24]
def s9 : SFunc := ⟨
  .seq (
    .region [
      ⟨some 3, none, [], .a 0 (.box (.t 0))⟩,
      ⟨some 6, none, [], .p (.mv (.c (.bool false)))⟩]) (
  .seq (
    .region [
      ⟨some 13, none, [], .p (.mv (.t 1))⟩,
      ⟨some 14, none, [], .p (.mv (.t 1))⟩,
      ⟨some 15, none, [], .p (.lenV false (.t 14))⟩,
      ⟨some 16, none, [], .p (.minmax false (.t 15) (.c (.int .i64 200)))⟩,
      ⟨some 17, none, [], .p (.slcStr (.t 13) none (some (.t 16)))⟩,
      ⟨some 18, none, [], .p (.mv (.t 2))⟩,
      ⟨some 19, none, [], .p (.mv (.t 2))⟩,
      ⟨some 20, none, [], .p (.lenV false (.t 19))⟩,
      ⟨some 21, none, [], .p (.minmax false (.t 20) (.c (.int .i64 200)))⟩,
      ⟨some 22, none, [], .p (.slcStr (.t 18) none (some (.t 21)))⟩,
      ⟨some 1, none, [], .p (.mv (.t 17))⟩,
      ⟨some 2, none, [], .p (.mv (.t 22))⟩]) (
  .seq (
    .region [
      ⟨some 24, none, [], .r (.loadN 46 (.t 3))⟩,
      ⟨some 25, none, [], .call 8004 4 true (.f 21) [.t 24]⟩,
      ⟨some 23, none, [], .p (.mv (.t 25))⟩,
      ⟨some 26, none, [], .p (.extract (.t 23) 0)⟩,
      ⟨some 27, none, [], .p (.extract (.t 23) 1)⟩,
      ⟨some 7, none, [], .p (.mv (.t 26))⟩,
      ⟨some 8, none, [], .p (.mv (.t 27))⟩]) (
  .seq (
    .region [
      ⟨some 29, none, [], .p (.mv (.t 7))⟩,
      ⟨some 30, none, [], .p (.mv (.t 8))⟩,
      ⟨some 31, none, [], .p (.mv (.t 1))⟩,
      ⟨some 32, none, [], .p (.mv (.t 2))⟩,
      ⟨some 33, none, [], .call 12016 4 true (.f 22) [.t 29, .t 30, .t 31, .t 32]⟩,
      ⟨some 28, none, [], .p (.mv (.t 33))⟩,
      ⟨some 34, none, [], .p (.extract (.t 28) 0)⟩,
      ⟨some 35, none, [], .p (.extract (.t 28) 1)⟩,
      ⟨some 9, none, [], .p (.mv (.t 34))⟩,
      ⟨some 10, none, [], .p (.mv (.t 35))⟩]) (
  .seq (
    .region [
      ⟨some 37, none, [], .p (.mv (.t 7))⟩,
      ⟨some 38, none, [], .p (.mv (.t 8))⟩,
      ⟨some 39, none, [], .p (.mv (.t 1))⟩,
      ⟨some 40, none, [], .p (.mv (.t 2))⟩,
      ⟨some 41, none, [], .call 16016 4 true (.f 23) [.t 37, .t 38, .t 39, .t 40]⟩,
      ⟨some 36, none, [], .p (.mv (.t 41))⟩,
      ⟨some 42, none, [], .p (.extract (.t 36) 0)⟩,
      ⟨some 43, none, [], .p (.extract (.t 36) 1)⟩,
      ⟨some 11, none, [], .p (.mv (.t 42))⟩,
      ⟨some 12, none, [], .p (.mv (.t 43))⟩]) (
  .seq (
    .region [
      ⟨some 44, none, [], .call 20000 4 true (.f 24) []⟩,
      ⟨some 45, none, [], .p (.mv (.t 44))⟩,
      ⟨some 46, some (45, true), [], .p (.mv (.t 9))⟩,
      ⟨some 47, some (45, true), [], .p (.mv (.t 11))⟩,
      ⟨some 48, some (45, true), [], .p (.bin .eql (.t 46) (.t 47))⟩,
      ⟨some 49, none, [], .p (.pick (.t 45) (.t 48) (.c (.bool false)))⟩,
      ⟨some 50, none, [], .p (.mv (.t 49))⟩,
      ⟨some 51, some (50, true), [], .p (.mv (.t 10))⟩,
      ⟨some 52, some (50, true), [], .p (.mv (.t 12))⟩,
      ⟨some 53, some (50, true), [], .p (.bin .eql (.t 51) (.t 52))⟩,
      ⟨some 54, none, [], .p (.pick (.t 50) (.t 53) (.c (.bool false)))⟩,
      ⟨some 6, none, [], .p (.mv (.t 54))⟩]) (
  .ret)))))),
  55, [Sum.inl 6]⟩

theorem c9 : cFunc Try.prog quiet Try.f9 [] = some s9 := by kernel_rfl

-- 10 calls [21, 24, 25, 26]
def s10 : SFunc := ⟨
  .seq (
    .region [
      ⟨some 3, none, [], .a 0 (.box (.t 0))⟩,
      ⟨some 6, none, [], .p (.mv (.c (.bool false)))⟩]) (
  .seq (
    .region [
      ⟨some 13, none, [], .p (.mv (.t 1))⟩,
      ⟨some 14, none, [], .p (.mv (.t 1))⟩,
      ⟨some 15, none, [], .p (.lenV false (.t 14))⟩,
      ⟨some 16, none, [], .p (.minmax false (.t 15) (.c (.int .i64 200)))⟩,
      ⟨some 17, none, [], .p (.slcStr (.t 13) none (some (.t 16)))⟩,
      ⟨some 18, none, [], .p (.mv (.t 2))⟩,
      ⟨some 19, none, [], .p (.mv (.t 2))⟩,
      ⟨some 20, none, [], .p (.lenV false (.t 19))⟩,
      ⟨some 21, none, [], .p (.minmax false (.t 20) (.c (.int .i64 200)))⟩,
      ⟨some 22, none, [], .p (.slcStr (.t 18) none (some (.t 21)))⟩,
      ⟨some 1, none, [], .p (.mv (.t 17))⟩,
      ⟨some 2, none, [], .p (.mv (.t 22))⟩]) (
  .seq (
    .region [
      ⟨some 24, none, [], .r (.loadN 46 (.t 3))⟩,
      ⟨some 25, none, [], .call 8004 4 true (.f 21) [.t 24]⟩,
      ⟨some 23, none, [], .p (.mv (.t 25))⟩,
      ⟨some 26, none, [], .p (.extract (.t 23) 0)⟩,
      ⟨some 27, none, [], .p (.extract (.t 23) 1)⟩,
      ⟨some 7, none, [], .p (.mv (.t 26))⟩,
      ⟨some 8, none, [], .p (.mv (.t 27))⟩]) (
  .seq (
    .region [
      ⟨some 29, none, [], .p (.mv (.t 7))⟩,
      ⟨some 30, none, [], .p (.mv (.t 8))⟩,
      ⟨some 31, none, [], .p (.mv (.t 1))⟩,
      ⟨some 32, none, [], .p (.mv (.t 2))⟩,
      ⟨some 33, none, [], .call 12016 4 true (.f 25) [.t 29, .t 30, .t 31, .t 32]⟩,
      ⟨some 28, none, [], .p (.mv (.t 33))⟩,
      ⟨some 34, none, [], .p (.extract (.t 28) 0)⟩,
      ⟨some 35, none, [], .p (.extract (.t 28) 1)⟩,
      ⟨some 9, none, [], .p (.mv (.t 34))⟩,
      ⟨some 10, none, [], .p (.mv (.t 35))⟩]) (
  .seq (
    .region [
      ⟨some 37, none, [], .p (.mv (.t 7))⟩,
      ⟨some 38, none, [], .p (.mv (.t 8))⟩,
      ⟨some 39, none, [], .p (.mv (.t 1))⟩,
      ⟨some 40, none, [], .p (.mv (.t 2))⟩,
      ⟨some 41, none, [], .call 16016 4 true (.f 26) [.t 37, .t 38, .t 39, .t 40]⟩,
      ⟨some 36, none, [], .p (.mv (.t 41))⟩,
      ⟨some 42, none, [], .p (.extract (.t 36) 0)⟩,
      ⟨some 43, none, [], .p (.extract (.t 36) 1)⟩,
      ⟨some 11, none, [], .p (.mv (.t 42))⟩,
      ⟨some 12, none, [], .p (.mv (.t 43))⟩]) (
  .seq (
    .region [
      ⟨some 44, none, [], .call 20000 4 true (.f 24) []⟩,
      ⟨some 45, none, [], .p (.mv (.t 44))⟩,
      ⟨some 46, some (45, true), [], .p (.mv (.t 9))⟩,
      ⟨some 47, some (45, true), [], .p (.mv (.t 11))⟩,
      ⟨some 48, some (45, true), [], .p (.bin .eql (.t 46) (.t 47))⟩,
      ⟨some 49, none, [], .p (.pick (.t 45) (.t 48) (.c (.bool false)))⟩,
      ⟨some 50, none, [], .p (.mv (.t 49))⟩,
      ⟨some 51, some (50, true), [], .p (.mv (.t 10))⟩,
      ⟨some 52, some (50, true), [], .p (.mv (.t 12))⟩,
      ⟨some 53, some (50, true), [], .p (.bin .eql (.t 51) (.t 52))⟩,
      ⟨some 54, none, [], .p (.pick (.t 50) (.t 53) (.c (.bool false)))⟩,
      ⟨some 6, none, [], .p (.mv (.t 54))⟩]) (
  .ret)))))),
  55, [Sum.inl 6]⟩

theorem c10 : cFunc Try.prog quiet Try.f10 [] = some s10 := by kernel_rfl

-- 11 calls [22, 24, 25, 27]
def s11 : SFunc := ⟨
  .seq (
    .region [
      ⟨some 3, none, [], .a 0 (.box (.t 0))⟩,
      ⟨some 6, none, [], .p (.mv (.c (.bool false)))⟩]) (
  .seq (
    .region [
      ⟨some 13, none, [], .p (.mv (.t 1))⟩,
      ⟨some 14, none, [], .p (.mv (.t 1))⟩,
      ⟨some 15, none, [], .p (.lenV false (.t 14))⟩,
      ⟨some 16, none, [], .p (.minmax false (.t 15) (.c (.int .i64 1000)))⟩,
      ⟨some 17, none, [], .p (.slcStr (.t 13) none (some (.t 16)))⟩,
      ⟨some 18, none, [], .p (.mv (.t 2))⟩,
      ⟨some 19, none, [], .p (.mv (.t 2))⟩,
      ⟨some 20, none, [], .p (.lenV false (.t 19))⟩,
      ⟨some 21, none, [], .p (.minmax false (.t 20) (.c (.int .i64 1000)))⟩,
      ⟨some 22, none, [], .p (.slcStr (.t 18) none (some (.t 21)))⟩,
      ⟨some 1, none, [], .p (.mv (.t 17))⟩,
      ⟨some 2, none, [], .p (.mv (.t 22))⟩]) (
  .seq (
    .region [
      ⟨some 24, none, [], .r (.loadN 46 (.t 3))⟩,
      ⟨some 25, none, [], .call 8004 4 true (.f 27) [.t 24]⟩,
      ⟨some 23, none, [], .p (.mv (.t 25))⟩,
      ⟨some 26, none, [], .p (.extract (.t 23) 0)⟩,
      ⟨some 27, none, [], .p (.extract (.t 23) 1)⟩,
      ⟨some 7, none, [], .p (.mv (.t 26))⟩,
      ⟨some 8, none, [], .p (.mv (.t 27))⟩]) (
  .seq (
    .region [
      ⟨some 29, none, [], .p (.mv (.t 7))⟩,
      ⟨some 30, none, [], .p (.mv (.t 8))⟩,
      ⟨some 31, none, [], .p (.mv (.t 1))⟩,
      ⟨some 32, none, [], .p (.mv (.t 2))⟩,
      ⟨some 33, none, [], .call 12016 4 true (.f 22) [.t 29, .t 30, .t 31, .t 32]⟩,
      ⟨some 28, none, [], .p (.mv (.t 33))⟩,
      ⟨some 34, none, [], .p (.extract (.t 28) 0)⟩,
      ⟨some 35, none, [], .p (.extract (.t 28) 1)⟩,
      ⟨some 9, none, [], .p (.mv (.t 34))⟩,
      ⟨some 10, none, [], .p (.mv (.t 35))⟩]) (
  .seq (
    .region [
      ⟨some 37, none, [], .p (.mv (.t 7))⟩,
      ⟨some 38, none, [], .p (.mv (.t 8))⟩,
      ⟨some 39, none, [], .p (.mv (.t 1))⟩,
      ⟨some 40, none, [], .p (.mv (.t 9))⟩,
      ⟨some 41, none, [], .call 16016 4 true (.f 25) [.t 37, .t 38, .t 39, .t 40]⟩,
      ⟨some 36, none, [], .p (.mv (.t 41))⟩,
      ⟨some 42, none, [], .p (.extract (.t 36) 0)⟩,
      ⟨some 43, none, [], .p (.extract (.t 36) 1)⟩,
      ⟨some 11, none, [], .p (.mv (.t 42))⟩,
      ⟨some 12, none, [], .p (.mv (.t 43))⟩]) (
  .seq (
    .region [
      ⟨some 44, none, [], .call 20000 4 true (.f 24) []⟩,
      ⟨some 45, none, [], .p (.mv (.t 44))⟩,
      ⟨some 46, some (45, true), [], .p (.mv (.t 10))⟩,
      ⟨some 47, some (45, true), [], .p (.bin .eql (.t 46) (.c (.int .i64 0)))⟩,
      ⟨some 48, none, [], .p (.pick (.t 45) (.t 47) (.c (.bool false)))⟩,
      ⟨some 49, none, [], .p (.mv (.t 48))⟩,
      ⟨some 50, some (49, true), [], .p (.mv (.t 12))⟩,
      ⟨some 51, some (49, true), [], .p (.bin .eql (.t 50) (.c (.int .i64 0)))⟩,
      ⟨some 52, none, [], .p (.pick (.t 49) (.t 51) (.c (.bool false)))⟩,
      ⟨some 53, none, [], .p (.mv (.t 52))⟩,
      ⟨some 54, some (53, true), [], .p (.mv (.t 11))⟩,
      ⟨some 55, some (53, true), [], .p (.mv (.t 2))⟩,
      ⟨some 56, some (53, true), [], .p (.bin .eql (.t 54) (.t 55))⟩,
      ⟨some 57, none, [], .p (.pick (.t 53) (.t 56) (.c (.bool false)))⟩,
      ⟨some 58, none, [], .p (.mv (.t 57))⟩,
      ⟨some 59, some (58, true), [], .p (.mv (.t 9))⟩,
      ⟨some 60, some (58, true), [], .p (.lenV false (.t 59))⟩,
      ⟨some 61, some (58, true), [], .p (.mv (.t 2))⟩,
      ⟨some 62, some (58, true), [], .p (.lenV false (.t 61))⟩,
      ⟨some 63, some (58, true), [], .p (.bin .add (.t 62) (.c (.int .i64 16)))⟩,
      ⟨some 64, some (58, true), [], .p (.bin .eql (.t 60) (.t 63))⟩,
      ⟨some 65, none, [], .p (.pick (.t 58) (.t 64) (.c (.bool false)))⟩,
      ⟨some 6, none, [], .p (.mv (.t 65))⟩]) (
  .ret)))))),
  66, [Sum.inl 6]⟩

theorem c11 : cFunc Try.prog quiet Try.f11 [] = some s11 := by kernel_rfl

-- 12 calls [22, 24, 25, 27]
def s12 : SFunc := ⟨
  .seq (
    .region [
      ⟨some 3, none, [], .a 0 (.box (.t 0))⟩,
      ⟨some 5, none, [], .a 4 (.box (.t 2))⟩,
      ⟨some 6, none, [], .p (.mv (.c (.bool false)))⟩]) (
  .seq (
    .region [
      ⟨some 14, none, [], .p (.mv (.t 1))⟩,
      ⟨some 15, none, [], .p (.mv (.t 1))⟩,
      ⟨some 16, none, [], .p (.lenV false (.t 15))⟩,
      ⟨some 17, none, [], .p (.minmax false (.t 16) (.c (.int .i64 300)))⟩,
      ⟨some 18, none, [], .p (.slcStr (.t 14) none (some (.t 17)))⟩,
      ⟨some 1, none, [], .p (.mv (.t 18))⟩]) (
  .seq (
    .region [
      ⟨some 20, none, [], .r (.loadN 46 (.t 3))⟩,
      ⟨some 21, none, [], .call 8004 4 true (.f 27) [.t 20]⟩,
      ⟨some 19, none, [], .p (.mv (.t 21))⟩,
      ⟨some 22, none, [], .p (.extract (.t 19) 0)⟩,
      ⟨some 23, none, [], .p (.extract (.t 19) 1)⟩,
      ⟨some 7, none, [], .p (.mv (.t 22))⟩,
      ⟨some 8, none, [], .p (.mv (.t 23))⟩]) (
  .seq (
    .region [
      ⟨some 25, none, [], .p (.mv (.t 7))⟩,
      ⟨some 26, none, [], .p (.mv (.t 8))⟩,
      ⟨some 27, none, [], .p (.mv (.t 1))⟩,
      ⟨some 28, none, [], .call 12012 4 true (.f 22) [.t 25, .t 26, .c (.str []), .t 27]⟩,
      ⟨some 24, none, [], .p (.mv (.t 28))⟩,
      ⟨some 29, none, [], .p (.extract (.t 24) 0)⟩,
      ⟨some 30, none, [], .p (.extract (.t 24) 1)⟩,
      ⟨some 9, none, [], .p (.mv (.t 29))⟩,
      ⟨some 10, none, [], .p (.mv (.t 30))⟩]) (
  .seq (
    .seq (
      .region [
        ⟨some 31, none, [], .call 16000 4 true (.f 24) []⟩,
        ⟨some 32, none, [], .p (.un .not (.t 31))⟩,
        ⟨some 33, none, [], .p (.mv (.t 32))⟩,
        ⟨some 34, some (33, false), [], .p (.mv (.t 10))⟩,
        ⟨some 35, some (33, false), [], .p (.bin .neq (.t 34) (.c (.int .i64 0)))⟩,
        ⟨some 36, none, [], .p (.pick (.t 33) (.c (.bool true)) (.t 35))⟩,
        ⟨some 37, none, [], .p (.mv (.t 36))⟩,
        ⟨some 38, some (37, false), [], .p (.mv (.t 9))⟩,
        ⟨some 39, some (37, false), [], .p (.lenV false (.t 38))⟩,
        ⟨some 40, some (37, false), [], .p (.bin .lss (.t 39) (.c (.int .i64 16)))⟩,
        ⟨some 41, none, [], .p (.pick (.t 37) (.c (.bool true)) (.t 40))⟩]) (
    .cond (.t 41) (
      .seq (
        .region [
          ⟨some 6, none, [], .p (.mv (.c (.bool false)))⟩]) (
      .ret)) (
      .skip))) (
  .seq (
    .region [
      ⟨some 42, none, [], .p (.mv (.t 9))⟩,
      ⟨some 43, none, [], .a 24004 (.toBytes (.t 42))⟩,
      ⟨some 11, none, [], .p (.mv (.t 43))⟩]) (
  .seq (
    .region [
      ⟨some 44, none, [], .p (.mv (.t 11))⟩,
      ⟨some 45, none, [], .p (.mv (.t 11))⟩,
      ⟨some 46, none, [], .p (.lenV true (.t 45))⟩,
      ⟨some 47, none, [], .p (.bin .sub (.t 46) (.c (.int .i64 1)))⟩,
      ⟨some 48, none, [], .p (.iaddrA 2 1 (.t 5) (.c (.int .i64 0)))⟩,
      ⟨some 49, none, [], .r (.load1 (.t 48))⟩,
      ⟨some 50, none, [], .p (.bin .rem (.t 49) (.c (byteAV 16)))⟩,
      ⟨some 51, none, [], .p (.conv .i64 (.t 50))⟩,
      ⟨some 52, none, [], .p (.bin .sub (.t 47) (.t 51))⟩,
      ⟨some 53, none, [], .p (.iaddrS 1 (.t 44) (.t 52))⟩,
      ⟨some 54, none, [], .r (.load1 (.t 53))⟩,
      ⟨some 55, none, [], .p (.iaddrA 2 1 (.t 5) (.c (.int .i64 1)))⟩,
      ⟨some 56, none, [], .r (.load1 (.t 55))⟩,
      ⟨some 57, none, [], .p (.bin .xor (.t 54) (.t 56))⟩,
      ⟨some 58, none, [], .p (.iaddrS 1 (.t 44) (.t 52))⟩,
      ⟨none, none, [], .w (.store1 (.t 58) (.t 57))⟩]) (
  .seq (
    .region [
      ⟨some 60, none, [], .p (.mv (.t 7))⟩,
      ⟨some 61, none, [], .p (.mv (.t 8))⟩,
      ⟨some 62, none, [], .p (.mv (.t 11))⟩,
      ⟨some 63, none, [], .r (.toStr (.t 62))⟩,
      ⟨some 64, none, [], .call 32016 4 true (.f 25) [.t 60, .t 61, .c (.str []), .t 63]⟩,
      ⟨some 59, none, [], .p (.mv (.t 64))⟩,
      ⟨some 65, none, [], .p (.extract (.t 59) 0)⟩,
      ⟨some 66, none, [], .p (.extract (.t 59) 1)⟩,
      ⟨some 12, none, [], .p (.mv (.t 65))⟩,
      ⟨some 13, none, [], .p (.mv (.t 66))⟩]) (
  .seq (
    .seq (
      .region [
        ⟨some 67, none, [], .p (.iaddrA 2 1 (.t 5) (.c (.int .i64 1)))⟩,
        ⟨some 68, none, [], .r (.load1 (.t 67))⟩,
        ⟨some 69, none, [], .p (.bin .eql (.t 68) (.c (byteAV 0)))⟩]) (
    .cond (.t 69) (
      .seq (
        .region [
          ⟨some 70, none, [], .p (.mv (.t 13))⟩,
          ⟨some 71, none, [], .p (.bin .eql (.t 70) (.c (.int .i64 0)))⟩,
          ⟨some 72, none, [], .p (.mv (.t 71))⟩,
          ⟨some 73, some (72, true), [], .p (.mv (.t 12))⟩,
          ⟨some 74, some (72, true), [], .p (.mv (.t 1))⟩,
          ⟨some 75, some (72, true), [], .p (.bin .eql (.t 73) (.t 74))⟩,
          ⟨some 76, none, [], .p (.pick (.t 72) (.t 75) (.c (.bool false)))⟩,
          ⟨some 6, none, [], .p (.mv (.t 76))⟩]) (
      .ret)) (
      .skip))) (
  .seq (
    .region [
      ⟨some 77, none, [], .p (.mv (.t 13))⟩,
      ⟨some 78, none, [], .p (.bin .eql (.t 77) (.c (.int .i64 23)))⟩,
      ⟨some 79, none, [], .p (.mv (.t 78))⟩,
      ⟨some 80, some (79, true), [], .p (.mv (.t 12))⟩,
      ⟨some 81, some (79, true), [], .p (.bin .eql (.t 80) (.c (.str [])))⟩,
      ⟨some 82, none, [], .p (.pick (.t 79) (.t 81) (.c (.bool false)))⟩,
      ⟨some 6, none, [], .p (.mv (.t 82))⟩]) (
  .ret)))))))))),
  83, [Sum.inl 6]⟩

theorem c12 : cFunc Try.prog quiet Try.f12 [] = some s12 := by kernel_rfl

-- 13 calls [22, 24, 27, 28]
def s13 : SFunc := ⟨
  .seq (
    .region [
      ⟨some 3, none, [], .a 0 (.box (.t 0))⟩,
      ⟨some 6, none, [], .p (.mv (.c (.bool false)))⟩]) (
  .seq (
    .region [
      ⟨some 14, none, [], .p (.mv (.t 1))⟩,
      ⟨some 15, none, [], .p (.lenV false (.t 14))⟩,
      ⟨some 16, none, [], .p (.mv (.t 2))⟩,
      ⟨some 17, none, [], .p (.lenV false (.t 16))⟩,
      ⟨some 18, none, [], .p (.minmax3 false (.t 15) (.t 17) (.c (.int .i64 500)))⟩,
      ⟨some 7, none, [], .p (.mv (.t 18))⟩]) (
  .seq (
    .region [
      ⟨some 20, none, [], .r (.loadN 46 (.t 3))⟩,
      ⟨some 21, none, [], .call 8004 4 true (.f 27) [.t 20]⟩,
      ⟨some 19, none, [], .p (.mv (.t 21))⟩,
      ⟨some 22, none, [], .p (.extract (.t 19) 0)⟩,
      ⟨some 23, none, [], .p (.extract (.t 19) 1)⟩,
      ⟨some 8, none, [], .p (.mv (.t 22))⟩,
      ⟨some 9, none, [], .p (.mv (.t 23))⟩]) (
  .seq (
    .region [
      ⟨some 25, none, [], .p (.mv (.t 8))⟩,
      ⟨some 26, none, [], .p (.mv (.t 9))⟩,
      ⟨some 27, none, [], .p (.mv (.t 1))⟩,
      ⟨some 28, none, [], .p (.mv (.t 7))⟩,
      ⟨some 29, none, [], .p (.slcStr (.t 27) none (some (.t 28)))⟩,
      ⟨some 30, none, [], .call 12020 4 true (.f 22) [.t 25, .t 26, .c (.str [115]), .t 29]⟩,
      ⟨some 24, none, [], .p (.mv (.t 30))⟩,
      ⟨some 31, none, [], .p (.extract (.t 24) 0)⟩,
      ⟨some 32, none, [], .p (.extract (.t 24) 1)⟩,
      ⟨some 10, none, [], .p (.mv (.t 31))⟩,
      ⟨some 11, none, [], .p (.mv (.t 32))⟩]) (
  .seq (
    .region [
      ⟨some 34, none, [], .p (.mv (.t 8))⟩,
      ⟨some 35, none, [], .p (.mv (.t 9))⟩,
      ⟨some 36, none, [], .p (.mv (.t 2))⟩,
      ⟨some 37, none, [], .p (.mv (.t 7))⟩,
      ⟨some 38, none, [], .p (.slcStr (.t 36) none (some (.t 37)))⟩,
      ⟨some 39, none, [], .call 16020 4 true (.f 22) [.t 34, .t 35, .c (.str [116]), .t 38]⟩,
      ⟨some 33, none, [], .p (.mv (.t 39))⟩,
      ⟨some 40, none, [], .p (.extract (.t 33) 0)⟩,
      ⟨some 41, none, [], .p (.extract (.t 33) 1)⟩,
      ⟨some 12, none, [], .p (.mv (.t 40))⟩,
      ⟨some 13, none, [], .p (.mv (.t 41))⟩]) (
  .seq (
    .region [
      ⟨some 42, none, [], .call 20000 4 true (.f 24) []⟩,
      ⟨some 43, none, [], .p (.mv (.t 42))⟩,
      ⟨some 44, some (43, true), [], .p (.mv (.t 11))⟩,
      ⟨some 45, some (43, true), [], .p (.bin .eql (.t 44) (.c (.int .i64 0)))⟩,
      ⟨some 46, none, [], .p (.pick (.t 43) (.t 45) (.c (.bool false)))⟩,
      ⟨some 47, none, [], .p (.mv (.t 46))⟩,
      ⟨some 48, some (47, true), [], .p (.mv (.t 13))⟩,
      ⟨some 49, some (47, true), [], .p (.bin .eql (.t 48) (.c (.int .i64 0)))⟩,
      ⟨some 50, none, [], .p (.pick (.t 47) (.t 49) (.c (.bool false)))⟩,
      ⟨some 51, none, [], .p (.mv (.t 50))⟩,
      ⟨some 52, some (51, true), [], .p (.mv (.t 10))⟩,
      ⟨some 53, some (51, true), [], .p (.lenV false (.t 52))⟩,
      ⟨some 54, some (51, true), [], .p (.mv (.t 7))⟩,
      ⟨some 55, some (51, true), [], .p (.bin .add (.t 54) (.c (.int .i64 16)))⟩,
      ⟨some 56, some (51, true), [], .p (.bin .eql (.t 53) (.t 55))⟩,
      ⟨some 57, none, [], .p (.pick (.t 51) (.t 56) (.c (.bool false)))⟩,
      ⟨some 58, none, [], .p (.mv (.t 57))⟩,
      ⟨some 59, some (58, true), [], .p (.mv (.t 12))⟩,
      ⟨some 60, some (58, true), [], .p (.lenV false (.t 59))⟩,
      ⟨some 61, some (58, true), [], .p (.mv (.t 7))⟩,
      ⟨some 62, some (58, true), [], .p (.bin .add (.t 61) (.c (.int .i64 16)))⟩,
      ⟨some 63, some (58, true), [], .p (.bin .eql (.t 60) (.t 62))⟩,
      ⟨some 64, none, [], .p (.pick (.t 58) (.t 63) (.c (.bool false)))⟩,
      ⟨some 65, none, [], .p (.mv (.t 64))⟩,
      ⟨some 66, some (65, true), [], .p (.mv (.t 10))⟩,
      ⟨some 67, some (65, true), [], .p (.mv (.t 7))⟩,
      ⟨some 68, some (65, true), [], .p (.slcStr (.t 66) none (some (.t 67)))⟩,
      ⟨some 69, some (65, true), [], .p (.mv (.t 12))⟩,
      ⟨some 70, some (65, true), [], .p (.mv (.t 7))⟩,
      ⟨some 71, some (65, true), [], .p (.slcStr (.t 69) none (some (.t 70)))⟩,
      ⟨some 72, some (65, true), [], .call 20120 4 true (.f 28) [.t 68, .t 71]⟩,
      ⟨some 73, some (65, true), [], .p (.mv (.t 1))⟩,
      ⟨some 74, some (65, true), [], .p (.mv (.t 7))⟩,
      ⟨some 75, some (65, true), [], .p (.slcStr (.t 73) none (some (.t 74)))⟩,
      ⟨some 76, some (65, true), [], .p (.mv (.t 2))⟩,
      ⟨some 77, some (65, true), [], .p (.mv (.t 7))⟩,
      ⟨some 78, some (65, true), [], .p (.slcStr (.t 76) none (some (.t 77)))⟩,
      ⟨some 79, some (65, true), [], .call 20148 4 true (.f 28) [.t 75, .t 78]⟩,
      ⟨some 80, some (65, true), [], .p (.bin .eql (.t 72) (.t 79))⟩,
      ⟨some 81, none, [], .p (.pick (.t 65) (.t 80) (.c (.bool false)))⟩,
      ⟨some 6, none, [], .p (.mv (.t 81))⟩]) (
  .ret)))))),
  82, [Sum.inl 6]⟩

theorem c13 : cFunc Try.prog quiet Try.f13 [] = some s13 := by kernel_rfl

-- 14 calls [22, 24, 25, 27]
def s14 : SFunc := ⟨
  .seq (
    .region [
      ⟨some 3, none, [], .a 0 (.box (.t 0))⟩,
      ⟨some 6, none, [], .p (.mv (.c (.bool false)))⟩]) (
  .seq (
    .region [
      ⟨some 19, none, [], .r (.loadN 46 (.t 3))⟩,
      ⟨some 20, none, [], .call 4004 4 true (.f 27) [.t 19]⟩,
      ⟨some 18, none, [], .p (.mv (.t 20))⟩,
      ⟨some 21, none, [], .p (.extract (.t 18) 0)⟩,
      ⟨some 22, none, [], .p (.extract (.t 18) 1)⟩,
      ⟨some 7, none, [], .p (.mv (.t 21))⟩,
      ⟨some 8, none, [], .p (.mv (.t 22))⟩]) (
  .seq (
    .region [
      ⟨some 23, none, [], .p (.mv (.t 1))⟩,
      ⟨some 24, none, [], .p (.conv .i64 (.t 23))⟩,
      ⟨some 25, none, [], .p (.bin .add (.c (.int .i64 16384)) (.t 24))⟩,
      ⟨some 26, none, [], .a 8012 (.mkSlice 1 1 [byteAV 0] (.t 25) (.t 25))⟩,
      ⟨some 27, none, [], .r (.toStr (.t 26))⟩,
      ⟨some 9, none, [], .p (.mv (.t 27))⟩]) (
  .seq (
    .region [
      ⟨some 28, none, [], .p (.mv (.t 9))⟩,
      ⟨some 10, none, [], .p (.mv (.t 28))⟩,
      ⟨some 11, none, [], .p (.mv (.c (.str [112])))⟩]) (
  .seq (
    .seq (
      .region [
        ⟨some 29, none, [], .p (.mv (.t 2))⟩,
        ⟨some 30, none, [], .p (.bin .and (.t 29) (.c (byteAV 1)))⟩,
        ⟨some 31, none, [], .p (.bin .eql (.t 30) (.c (byteAV 1)))⟩]) (
    .cond (.t 31) (
      .region [
        ⟨some 32, none, [], .p (.mv (.t 9))⟩,
        ⟨some 10, none, [], .p (.mv (.c (.str [119])))⟩,
        ⟨some 11, none, [], .p (.mv (.t 32))⟩]) (
      .skip))) (
  .seq (
    .region [
      ⟨some 34, none, [], .p (.mv (.t 7))⟩,
      ⟨some 35, none, [], .p (.mv (.t 8))⟩,
      ⟨some 36, none, [], .p (.mv (.t 10))⟩,
      ⟨some 37, none, [], .p (.mv (.t 11))⟩,
      ⟨some 38, none, [], .call 24016 4 true (.f 22) [.t 34, .t 35, .t 36, .t 37]⟩,
      ⟨some 33, none, [], .p (.mv (.t 38))⟩,
      ⟨some 39, none, [], .p (.extract (.t 33) 0)⟩,
      ⟨some 40, none, [], .p (.extract (.t 33) 1)⟩,
      ⟨some 12, none, [], .p (.mv (.t 39))⟩,
      ⟨some 13, none, [], .p (.mv (.t 40))⟩]) (
  .seq (
    .seq (
      .region [
        ⟨some 41, none, [], .p (.mv (.t 1))⟩,
        ⟨some 42, none, [], .p (.bin .gtr (.t 41) (.c (byteAV 0)))⟩]) (
    .cond (.t 42) (
      .seq (
        .region [
          ⟨some 44, none, [], .p (.mv (.t 7))⟩,
          ⟨some 45, none, [], .p (.mv (.t 8))⟩,
          ⟨some 46, none, [], .p (.mv (.t 10))⟩,
          ⟨some 47, none, [], .p (.mv (.t 11))⟩,
          ⟨some 48, none, [], .a 32016 (.mkSlice 1 1 [byteAV 0] (.c (.int .i64 16)) (.c (.int .i64 16)))⟩,
          ⟨some 49, none, [], .r (.toStr (.t 48))⟩,
          ⟨some 50, none, [], .p (.bin .add (.t 47) (.t 49))⟩,
          ⟨some 51, none, [], .call 32028 4 true (.f 25) [.t 44, .t 45, .t 46, .t 50]⟩,
          ⟨some 43, none, [], .p (.mv (.t 51))⟩,
          ⟨some 52, none, [], .p (.extract (.t 43) 0)⟩,
          ⟨some 53, none, [], .p (.extract (.t 43) 1)⟩,
          ⟨some 14, none, [], .p (.mv (.t 52))⟩,
          ⟨some 15, none, [], .p (.mv (.t 53))⟩]) (
      .seq (
        .region [
          ⟨some 54, none, [], .call 36000 4 true (.f 24) []⟩,
          ⟨some 55, none, [], .p (.mv (.t 54))⟩,
          ⟨some 56, some (55, true), [], .p (.mv (.t 13))⟩,
          ⟨some 57, some (55, true), [], .p (.bin .eql (.t 56) (.c (.int .i64 5)))⟩,
          ⟨some 58, none, [], .p (.pick (.t 55) (.t 57) (.c (.bool false)))⟩,
          ⟨some 59, none, [], .p (.mv (.t 58))⟩,
          ⟨some 60, some (59, true), [], .p (.mv (.t 12))⟩,
          ⟨some 61, some (59, true), [], .p (.bin .eql (.t 60) (.c (.str [])))⟩,
          ⟨some 62, none, [], .p (.pick (.t 59) (.t 61) (.c (.bool false)))⟩,
          ⟨some 63, none, [], .p (.mv (.t 62))⟩,
          ⟨some 64, some (63, true), [], .p (.mv (.t 15))⟩,
          ⟨some 65, some (63, true), [], .p (.bin .eql (.t 64) (.c (.int .i64 5)))⟩,
          ⟨some 66, none, [], .p (.pick (.t 63) (.t 65) (.c (.bool false)))⟩,
          ⟨some 6, none, [], .p (.mv (.t 66))⟩]) (
      .ret))) (
      .skip))) (
  .seq (
    .region [
      ⟨some 68, none, [], .p (.mv (.t 7))⟩,
      ⟨some 69, none, [], .p (.mv (.t 8))⟩,
      ⟨some 70, none, [], .p (.mv (.t 10))⟩,
      ⟨some 71, none, [], .p (.mv (.t 12))⟩,
      ⟨some 72, none, [], .call 40016 4 true (.f 25) [.t 68, .t 69, .t 70, .t 71]⟩,
      ⟨some 67, none, [], .p (.mv (.t 72))⟩,
      ⟨some 73, none, [], .p (.extract (.t 67) 0)⟩,
      ⟨some 74, none, [], .p (.extract (.t 67) 1)⟩,
      ⟨some 16, none, [], .p (.mv (.t 73))⟩,
      ⟨some 17, none, [], .p (.mv (.t 74))⟩]) (
  .seq (
    .region [
      ⟨some 75, none, [], .call 44000 4 true (.f 24) []⟩,
      ⟨some 76, none, [], .p (.mv (.t 75))⟩,
      ⟨some 77, some (76, true), [], .p (.mv (.t 13))⟩,
      ⟨some 78, some (76, true), [], .p (.bin .eql (.t 77) (.c (.int .i64 0)))⟩,
      ⟨some 79, none, [], .p (.pick (.t 76) (.t 78) (.c (.bool false)))⟩,
      ⟨some 80, none, [], .p (.mv (.t 79))⟩,
      ⟨some 81, some (80, true), [], .p (.mv (.t 17))⟩,
      ⟨some 82, some (80, true), [], .p (.bin .eql (.t 81) (.c (.int .i64 0)))⟩,
      ⟨some 83, none, [], .p (.pick (.t 80) (.t 82) (.c (.bool false)))⟩,
      ⟨some 84, none, [], .p (.mv (.t 83))⟩,
      ⟨some 85, some (84, true), [], .p (.mv (.t 16))⟩,
      ⟨some 86, some (84, true), [], .p (.mv (.t 11))⟩,
      ⟨some 87, some (84, true), [], .p (.bin .eql (.t 85) (.t 86))⟩,
      ⟨some 88, none, [], .p (.pick (.t 84) (.t 87) (.c (.bool false)))⟩,
      ⟨some 6, none, [], .p (.mv (.t 88))⟩]) (
  .ret))))))))),
  89, [Sum.inl 6]⟩

theorem c14 : cFunc Try.prog quiet Try.f14 [] = some s14 := by kernel_rfl

-- 15 calls []
abbrev k15_0 : List Nat := [0, 1, 5, 13, 14]
abbrev a15_0 : List Nat := [5]
abbrev e15_0 (v0 v1 v5 v13 v14 : AV) : Env := [v0, v1, .dead, .dead, .dead, v5, .dead, .dead, .dead, .dead, .dead, .dead, .dead, v13, v14, .dead, .dead, .dead, .dead, .dead, .dead, .dead, .dead, .dead, .dead, .dead, .dead, .dead, .dead]
abbrev x15_0 (v5 : AV) : Env := [.dead, .dead, .dead, .dead, .dead, v5, .dead, .dead, .dead, .dead, .dead, .dead, .dead, .dead, .dead, .dead, .dead, .dead, .dead, .dead, .dead, .dead, .dead, .dead, .dead, .dead, .dead, .dead, .dead]
def s15_b0 : SCode :=
  .seq (
    .region [
      ⟨some 15, none, [], .p (.bin .lss (.t 14) (.t 13))⟩]) (
  .seq (
    .cond (.t 15) (
      .skip) (
      .exit 0)) (
  .seq (
    .block 1 (
      .seq (
        .region [
          ⟨some 16, none, [], .p (.mv (.t 14))⟩,
          ⟨some 6, none, [], .p (.mv (.t 16))⟩]) (
      .region [
        ⟨some 17, none, [], .p (.mv (.t 5))⟩,
        ⟨some 18, none, [], .p (.mv (.t 0))⟩,
        ⟨some 19, none, [], .p (.mv (.t 6))⟩,
        ⟨some 20, none, [], .p (.idxStr (.t 18) (.t 19))⟩,
        ⟨some 21, none, [], .p (.mv (.t 1))⟩,
        ⟨some 22, none, [], .p (.mv (.t 6))⟩,
        ⟨some 23, none, [], .p (.idxStr (.t 21) (.t 22))⟩,
        ⟨some 24, none, [], .p (.bin .xor (.t 20) (.t 23))⟩,
        ⟨some 25, none, [], .p (.bin .or (.t 17) (.t 24))⟩,
        ⟨some 5, none, [], .p (.mv (.t 25))⟩]))) (
  .region [
    ⟨some 26, none, [], .p (.bin .add (.t 14) (.c (.int .i64 1)))⟩,
    ⟨some 14, none, [], .p (.mv (.t 26))⟩])))

def s15 : SFunc := ⟨
  .seq (
    .region [
      ⟨some 4, none, [], .p (.mv (.c (.bool false)))⟩]) (
  .seq (
    .seq (
      .region [
        ⟨some 7, none, [], .p (.mv (.t 0))⟩,
        ⟨some 8, none, [], .p (.lenV false (.t 7))⟩,
        ⟨some 9, none, [], .p (.mv (.t 1))⟩,
        ⟨some 10, none, [], .p (.lenV false (.t 9))⟩,
        ⟨some 11, none, [], .p (.bin .neq (.t 8) (.t 10))⟩]) (
    .cond (.t 11) (
      .seq (
        .region [
          ⟨some 4, none, [], .p (.mv (.c (.bool false)))⟩]) (
      .ret)) (
      .skip))) (
  .seq (
    .region [
      ⟨some 5, none, [], .p (.mv (.c (byteAV 0)))⟩]) (
  .seq (
    .seq (
      .region [
        ⟨some 12, none, [], .p (.mv (.t 0))⟩,
        ⟨some 13, none, [], .p (.lenV false (.t 12))⟩,
        ⟨some 14, none, [], .p (.mv (.c (.int .i64 0)))⟩]) (
    .block 0 (
      .loop k15_0 a15_0 s15_b0))) (
  .seq (
    .region [
      ⟨some 27, none, [], .p (.mv (.t 5))⟩,
      ⟨some 28, none, [], .p (.bin .eql (.t 27) (.c (byteAV 0)))⟩,
      ⟨some 4, none, [], .p (.mv (.t 28))⟩]) (
  .ret))))),
  29, [Sum.inl 4]⟩

theorem c15 : cFunc Try.prog quiet Try.f15 [[0, 1, 5, 13, 14], [5]] = some s15 := by kernel_rfl

-- 16 calls []
abbrev k16_0 : List Nat := [4, 12, 13]
abbrev a16_0 : List Nat := [4]
abbrev e16_0 (v4 v12 v13 : AV) : Env := [.dead, .dead, .dead, .dead, v4, .dead, .dead, .dead, .dead, .dead, .dead, .dead, v12, v13, .dead, .dead, .dead, .dead, .dead, .dead, .dead, .dead, .dead, .dead, .dead, .dead, .dead, .dead, .dead, .dead, .dead, .dead, .dead, .dead, .dead, .dead, .dead, .dead, .dead, .dead, .dead, .dead, .dead]
abbrev x16_0 (v4 : AV) : Env := [.dead, .dead, .dead, .dead, v4, .dead, .dead, .dead, .dead, .dead, .dead, .dead, .dead, .dead, .dead, .dead, .dead, .dead, .dead, .dead, .dead, .dead, .dead, .dead, .dead, .dead, .dead, .dead, .dead, .dead, .dead, .dead, .dead, .dead, .dead, .dead, .dead, .dead, .dead, .dead, .dead, .dead, .dead]
def s16_b0 : SCode :=
  .seq (
    .region [
      ⟨some 14, none, [], .p (.bin .lss (.t 13) (.t 12))⟩]) (
  .seq (
    .cond (.t 14) (
      .skip) (
      .exit 0)) (
  .seq (
    .block 1 (
      .seq (
        .region [
          ⟨some 15, none, [], .p (.mv (.t 13))⟩,
          ⟨some 5, none, [], .p (.mv (.t 15))⟩]) (
      .block 2 (
        .seq (
          .region [
            ⟨some 17, none, [], .p (.mv (.t 5))⟩,
            ⟨some 18, none, [], .p (.bin .rem (.t 17) (.c (.int .i64 4)))⟩,
            ⟨some 19, none, [], .p (.bin .eql (.t 18) (.c (.int .i64 3)))⟩,
            ⟨some 16, none, [], .p (.mv (.t 19))⟩]) (
        .cond (.t 16) (
          .region [
            ⟨some 20, none, [], .p (.mv (.t 4))⟩,
            ⟨some 21, none, [], .p (.mv (.t 5))⟩,
            ⟨some 22, none, [], .p (.iaddrS 1 (.t 20) (.t 21))⟩,
            ⟨some 23, none, [], .r (.load1 (.t 22))⟩,
            ⟨some 24, none, [], .p (.bin .and (.t 23) (.c (byteAV 15)))⟩,
            ⟨some 25, none, [], .p (.iaddrS 1 (.t 20) (.t 21))⟩,
            ⟨none, none, [], .w (.store1 (.t 25) (.t 24))⟩]) (
          .seq (
            .region [
              ⟨some 27, none, [], .p (.mv (.t 5))⟩,
              ⟨some 28, none, [], .p (.bin .rem (.t 27) (.c (.int .i64 4)))⟩,
              ⟨some 29, none, [], .p (.bin .eql (.t 28) (.c (.int .i64 0)))⟩,
              ⟨some 30, none, [], .p (.mv (.t 29))⟩,
              ⟨some 31, some (30, true), [], .p (.mv (.t 5))⟩,
              ⟨some 32, some (30, true), [], .p (.bin .gtr (.t 31) (.c (.int .i64 0)))⟩,
              ⟨some 33, none, [], .p (.pick (.t 30) (.t 32) (.c (.bool false)))⟩,
              ⟨some 26, none, [], .p (.mv (.t 33))⟩]) (
          .cond (.t 26) (
            .region [
              ⟨some 34, none, [], .p (.mv (.t 4))⟩,
              ⟨some 35, none, [], .p (.mv (.t 5))⟩,
              ⟨some 36, none, [], .p (.iaddrS 1 (.t 34) (.t 35))⟩,
              ⟨some 37, none, [], .r (.load1 (.t 36))⟩,
              ⟨some 38, none, [], .p (.bin .and (.t 37) (.c (byteAV 252)))⟩,
              ⟨some 39, none, [], .p (.iaddrS 1 (.t 34) (.t 35))⟩,
              ⟨none, none, [], .w (.store1 (.t 39) (.t 38))⟩]) (
            .skip)))))))) (
  .region [
    ⟨some 40, none, [], .p (.bin .add (.t 13) (.c (.int .i64 1)))⟩,
    ⟨some 13, none, [], .p (.mv (.t 40))⟩])))

def s16 : SFunc := ⟨
  .seq (
    .region [
      ⟨some 2, none, [], .p (.mv (.c (.str [])))⟩,
      ⟨some 3, none, [], .p (.mv (.c (.int .i64 0)))⟩]) (
  .seq (
    .seq (
      .region [
        ⟨some 6, none, [], .p (.mv (.t 0))⟩,
        ⟨some 7, none, [], .p (.lenV false (.t 6))⟩,
        ⟨some 8, none, [], .p (.bin .neq (.t 7) (.c (.int .i64 16)))⟩]) (
    .cond (.t 8) (
      .seq (
        .region [
          ⟨some 2, none, [], .p (.mv (.c (.str [])))⟩,
          ⟨some 3, none, [], .p (.mv (.c (.int .i64 7)))⟩]) (
      .ret)) (
      .skip))) (
  .seq (
    .region [
      ⟨some 9, none, [], .p (.mv (.t 0))⟩,
      ⟨some 10, none, [], .a 12004 (.toBytes (.t 9))⟩,
      ⟨some 4, none, [], .p (.mv (.t 10))⟩]) (
  .seq (
    .seq (
      .region [
        ⟨some 11, none, [], .p (.mv (.t 4))⟩,
        ⟨some 12, none, [], .p (.lenV true (.t 11))⟩,
        ⟨some 13, none, [], .p (.mv (.c (.int .i64 0)))⟩]) (
    .block 0 (
      .loop k16_0 a16_0 s16_b0))) (
  .seq (
    .region [
      ⟨some 41, none, [], .p (.mv (.t 4))⟩,
      ⟨some 42, none, [], .r (.toStr (.t 41))⟩,
      ⟨some 2, none, [], .p (.mv (.t 42))⟩,
      ⟨some 3, none, [], .p (.mv (.c (.int .i64 0)))⟩]) (
  .ret))))),
  43, [Sum.inl 2, Sum.inl 3]⟩

theorem c16 : cFunc Try.prog quiet Try.f16 [[4, 12, 13], [4]] = some s16 := by kernel_rfl

-- 17 calls []
abbrev k17_1 : List Nat := [4, 6]
abbrev a17_1 : List Nat := [4]
abbrev e17_1 (v4 v6 : AV) : Env := [.dead, .dead, .dead, .dead, v4, .dead, v6, .dead, .dead, .dead, .dead, .dead, .dead, .dead, .dead, .dead, .dead, .dead, .dead, .dead, .dead, .dead, .dead, .dead, .dead, .dead, .dead, .dead, .dead, .dead, .dead, .dead, .dead, .dead, .dead, .dead, .dead, .dead, .dead, .dead, .dead, .dead, .dead]
abbrev x17_1 (v4 : AV) : Env := [.dead, .dead, .dead, .dead, v4, .dead, .dead, .dead, .dead, .dead, .dead, .dead, .dead, .dead, .dead, .dead, .dead, .dead, .dead, .dead, .dead, .dead, .dead, .dead, .dead, .dead, .dead, .dead, .dead, .dead, .dead, .dead, .dead, .dead, .dead, .dead, .dead, .dead, .dead, .dead, .dead, .dead, .dead]
def s17_b1 : SCode :=
  .seq (
    .seq (
      .region [
        ⟨some 24, none, [], .p (.mv (.t 6))⟩,
        ⟨some 25, none, [], .p (.bin .lss (.t 24) (.c (.int .i64 16)))⟩]) (
    .cond (.t 25) (
      .skip) (
      .exit 2))) (
  .seq (
    .block 3 (
      .region [
        ⟨some 28, none, [], .p (.mv (.t 4))⟩,
        ⟨some 29, none, [], .p (.mv (.t 6))⟩,
        ⟨some 30, none, [], .p (.mv (.t 4))⟩,
        ⟨some 31, none, [], .p (.mv (.t 6))⟩,
        ⟨some 32, none, [], .p (.iaddrS 1 (.t 30) (.t 31))⟩,
        ⟨some 33, none, [], .r (.load1 (.t 32))⟩,
        ⟨some 34, none, [], .p (.mv (.t 4))⟩,
        ⟨some 35, none, [], .p (.mv (.t 6))⟩,
        ⟨some 36, none, [], .p (.iaddrS 1 (.t 34) (.t 35))⟩,
        ⟨some 37, none, [], .r (.load1 (.t 36))⟩,
        ⟨some 38, none, [], .p (.bin .rem (.t 37) (.c (byteAV 4)))⟩,
        ⟨some 39, none, [], .p (.bin .sub (.t 33) (.t 38))⟩,
        ⟨some 40, none, [], .p (.iaddrS 1 (.t 28) (.t 29))⟩,
        ⟨none, none, [], .w (.store1 (.t 40) (.t 39))⟩])) (
  .region [
    ⟨some 26, none, [], .p (.mv (.t 6))⟩,
    ⟨some 27, none, [], .p (.bin .add (.t 26) (.c (.int .i64 4)))⟩,
    ⟨some 6, none, [], .p (.mv (.t 27))⟩]))

abbrev k17_0 : List Nat := [4, 5]
abbrev a17_0 : List Nat := [4]
abbrev e17_0 (v4 v5 : AV) : Env := [.dead, .dead, .dead, .dead, v4, v5, .dead, .dead, .dead, .dead, .dead, .dead, .dead, .dead, .dead, .dead, .dead, .dead, .dead, .dead, .dead, .dead, .dead, .dead, .dead, .dead, .dead, .dead, .dead, .dead, .dead, .dead, .dead, .dead, .dead, .dead, .dead, .dead, .dead, .dead, .dead, .dead, .dead]
abbrev x17_0 (v4 : AV) : Env := [.dead, .dead, .dead, .dead, v4, .dead, .dead, .dead, .dead, .dead, .dead, .dead, .dead, .dead, .dead, .dead, .dead, .dead, .dead, .dead, .dead, .dead, .dead, .dead, .dead, .dead, .dead, .dead, .dead, .dead, .dead, .dead, .dead, .dead, .dead, .dead, .dead, .dead, .dead, .dead, .dead, .dead, .dead]
def s17_b0 : SCode :=
  .seq (
    .seq (
      .region [
        ⟨some 12, none, [], .p (.mv (.t 5))⟩,
        ⟨some 13, none, [], .p (.bin .lss (.t 12) (.c (.int .i64 16)))⟩]) (
    .cond (.t 13) (
      .skip) (
      .exit 0))) (
  .seq (
    .block 1 (
      .region [
        ⟨some 16, none, [], .p (.mv (.t 4))⟩,
        ⟨some 17, none, [], .p (.mv (.t 5))⟩,
        ⟨some 18, none, [], .p (.mv (.t 4))⟩,
        ⟨some 19, none, [], .p (.mv (.t 5))⟩,
        ⟨some 20, none, [], .p (.iaddrS 1 (.t 18) (.t 19))⟩,
        ⟨some 21, none, [], .r (.load1 (.t 20))⟩,
        ⟨some 22, none, [], .p (.bin .rem (.t 21) (.c (byteAV 16)))⟩,
        ⟨some 23, none, [], .p (.iaddrS 1 (.t 16) (.t 17))⟩,
        ⟨none, none, [], .w (.store1 (.t 23) (.t 22))⟩])) (
  .region [
    ⟨some 14, none, [], .p (.mv (.t 5))⟩,
    ⟨some 15, none, [], .p (.bin .add (.t 14) (.c (.int .i64 4)))⟩,
    ⟨some 5, none, [], .p (.mv (.t 15))⟩]))

def s17 : SFunc := ⟨
  .seq (
    .region [
      ⟨some 2, none, [], .p (.mv (.c (.str [])))⟩,
      ⟨some 3, none, [], .p (.mv (.c (.int .i64 0)))⟩]) (
  .seq (
    .seq (
      .region [
        ⟨some 7, none, [], .p (.mv (.t 0))⟩,
        ⟨some 8, none, [], .p (.lenV false (.t 7))⟩,
        ⟨some 9, none, [], .p (.bin .neq (.t 8) (.c (.int .i64 16)))⟩]) (
    .cond (.t 9) (
      .seq (
        .region [
          ⟨some 2, none, [], .p (.mv (.c (.str [])))⟩,
          ⟨some 3, none, [], .p (.mv (.c (.int .i64 7)))⟩]) (
      .ret)) (
      .skip))) (
  .seq (
    .region [
      ⟨some 10, none, [], .p (.mv (.t 0))⟩,
      ⟨some 11, none, [], .a 12004 (.toBytes (.t 10))⟩,
      ⟨some 4, none, [], .p (.mv (.t 11))⟩]) (
  .seq (
    .seq (
      .region [
        ⟨some 5, none, [], .p (.mv (.c (.int .i64 3)))⟩]) (
    .block 0 (
      .loop k17_0 a17_0 s17_b0))) (
  .seq (
    .seq (
      .region [
        ⟨some 6, none, [], .p (.mv (.c (.int .i64 4)))⟩]) (
    .block 2 (
      .loop k17_1 a17_1 s17_b1))) (
  .seq (
    .region [
      ⟨some 41, none, [], .p (.mv (.t 4))⟩,
      ⟨some 42, none, [], .r (.toStr (.t 41))⟩,
      ⟨some 2, none, [], .p (.mv (.t 42))⟩,
      ⟨some 3, none, [], .p (.mv (.c (.int .i64 0)))⟩]) (
  .ret)))))),
  43, [Sum.inl 2, Sum.inl 3]⟩

theorem c17 : cFunc Try.prog quiet Try.f17 [[4, 5], [4], [4, 6], [4]] = some s17 := by kernel_rfl

-- 19 calls [16, 29, 30, 31, 32]
abbrev k19_1 : List Nat := [0, 1, 8, 9, 51, 52]
abbrev a19_1 : List Nat := [0, 1, 8, 9]
abbrev e19_1 (v0 v1 v8 v9 v51 v52 : AV) : Env := [v0, v1, .dead, .dead, .dead, .dead, .dead, .dead, v8, v9, .dead, .dead, .dead, .dead, .dead, .dead, .dead, .dead, .dead, .dead, .dead, .dead, .dead, .dead, .dead, .dead, .dead, .dead, .dead, .dead, .dead, .dead, .dead, .dead, .dead, .dead, .dead, .dead, .dead, .dead, .dead, .dead, .dead, .dead, .dead, .dead, .dead, .dead, .dead, .dead, .dead, v51, v52, .dead, .dead, .dead, .dead, .dead, .dead, .dead, .dead, .dead, .dead, .dead, .dead, .dead, .dead, .dead, .dead, .dead]
abbrev x19_1 (v0 v1 v8 v9 : AV) : Env := [v0, v1, .dead, .dead, .dead, .dead, .dead, .dead, v8, v9, .dead, .dead, .dead, .dead, .dead, .dead, .dead, .dead, .dead, .dead, .dead, .dead, .dead, .dead, .dead, .dead, .dead, .dead, .dead, .dead, .dead, .dead, .dead, .dead, .dead, .dead, .dead, .dead, .dead, .dead, .dead, .dead, .dead, .dead, .dead, .dead, .dead, .dead, .dead, .dead, .dead, .dead, .dead, .dead, .dead, .dead, .dead, .dead, .dead, .dead, .dead, .dead, .dead, .dead, .dead, .dead, .dead, .dead, .dead, .dead]
def s19_b1 : SCode :=
  .seq (
    .region [
      ⟨some 53, none, [], .p (.bin .lss (.t 52) (.c (.int .i64 5)))⟩]) (
  .seq (
    .cond (.t 53) (
      .skip) (
      .exit 3)) (
  .seq (
    .block 4 (
      .seq (
        .region [
          ⟨some 54, none, [], .p (.mv (.t 52))⟩,
          ⟨some 55, none, [], .p (.idxA 5 (.t 51) (.t 52))⟩,
          ⟨some 12, none, [], .p (.mv (.t 54))⟩,
          ⟨some 13, none, [], .p (.mv (.t 55))⟩]) (
      .region [
        ⟨some 56, none, [], .p (.mv (.t 12))⟩,
        ⟨some 57, none, [], .p (.iaddrA 5 1 (.t 9) (.t 56))⟩,
        ⟨some 58, none, [], .r (.load1 (.t 57))⟩,
        ⟨some 59, none, [], .p (.mv (.t 13))⟩,
        ⟨some 60, none, [], .p (.bin .add (.t 58) (.t 59))⟩,
        ⟨some 61, none, [], .p (.iaddrA 5 1 (.t 9) (.t 56))⟩,
        ⟨none, none, [], .w (.store1 (.t 61) (.t 60))⟩]))) (
  .region [
    ⟨some 62, none, [], .p (.bin .add (.t 52) (.c (.int .i64 1)))⟩,
    ⟨some 52, none, [], .p (.mv (.t 62))⟩])))

abbrev k19_0 : List Nat := [0, 1, 8, 9]
abbrev a19_0 : List Nat := [0, 9]
abbrev e19_0 (v0 v1 v8 v9 : AV) : Env := [v0, v1, .dead, .dead, .dead, .dead, .dead, .dead, v8, v9, .dead, .dead, .dead, .dead, .dead, .dead, .dead, .dead, .dead, .dead, .dead, .dead, .dead, .dead, .dead, .dead, .dead, .dead, .dead, .dead, .dead, .dead, .dead, .dead, .dead, .dead, .dead, .dead, .dead, .dead, .dead, .dead, .dead, .dead, .dead, .dead, .dead, .dead, .dead, .dead, .dead, .dead, .dead, .dead, .dead, .dead, .dead, .dead, .dead, .dead, .dead, .dead, .dead, .dead, .dead, .dead, .dead, .dead, .dead, .dead]
abbrev x19_0 (v0 v9 : AV) : Env := [v0, .dead, .dead, .dead, .dead, .dead, .dead, .dead, .dead, v9, .dead, .dead, .dead, .dead, .dead, .dead, .dead, .dead, .dead, .dead, .dead, .dead, .dead, .dead, .dead, .dead, .dead, .dead, .dead, .dead, .dead, .dead, .dead, .dead, .dead, .dead, .dead, .dead, .dead, .dead, .dead, .dead, .dead, .dead, .dead, .dead, .dead, .dead, .dead, .dead, .dead, .dead, .dead, .dead, .dead, .dead, .dead, .dead, .dead, .dead, .dead, .dead, .dead, .dead, .dead, .dead, .dead, .dead, .dead, .dead]
def s19_b0 : SCode :=
  .seq (
    .seq (
      .region [
        ⟨some 30, none, [], .p (.mv (.t 1))⟩,
        ⟨some 31, none, [], .p (.lenV false (.t 30))⟩,
        ⟨some 32, none, [], .p (.bin .gtr (.t 31) (.c (.int .i64 0)))⟩]) (
    .cond (.t 32) (
      .skip) (
      .exit 1))) (
  .block 2 (
    .seq (
      .region [
        ⟨some 33, none, [], .p (.mv (.t 1))⟩,
        ⟨some 34, none, [], .p (.lenV false (.t 33))⟩,
        ⟨some 35, none, [], .p (.minmax false (.t 34) (.c (.int .i64 16)))⟩,
        ⟨some 10, none, [], .p (.mv (.t 35))⟩]) (
    .seq (
      .region [
        ⟨some 11, none, [], .a 40000 (.alloc [byteAV 0, byteAV 0, byteAV 0, byteAV 0, byteAV 0, byteAV 0, byteAV 0, byteAV 0, byteAV 0, byteAV 0, byteAV 0, byteAV 0, byteAV 0, byteAV 0, byteAV 0, byteAV 0, byteAV 0])⟩]) (
    .seq (
      .region [
        ⟨some 36, none, [], .p (.slcA 17 1 (.t 11) none none)⟩,
        ⟨some 37, none, [], .p (.mv (.t 1))⟩,
        ⟨some 38, none, [], .p (.mv (.t 10))⟩,
        ⟨some 39, none, [], .p (.slcStr (.t 37) none (some (.t 38)))⟩,
        ⟨some 40, none, [], .w (.copy 1 (.t 36) (.t 39))⟩]) (
    .seq (
      .region [
        ⟨some 41, none, [], .p (.mv (.t 10))⟩,
        ⟨some 42, none, [], .p (.iaddrA 17 1 (.t 11) (.t 41))⟩,
        ⟨none, none, [], .w (.store1 (.t 42) (.c (byteAV 1)))⟩]) (
    .seq (
      .region [
        ⟨some 43, none, [], .p (.mv (.t 1))⟩,
        ⟨some 44, none, [], .p (.mv (.t 10))⟩,
        ⟨some 45, none, [], .p (.slcStr (.t 43) (some (.t 44)) none)⟩,
        ⟨some 1, none, [], .p (.mv (.t 45))⟩]) (
    .seq (
      .seq (
        .region [
          ⟨some 46, none, [], .p (.slcA 17 1 (.t 11) none (some (.c (.int .i64 16))))⟩,
          ⟨some 47, none, [], .r (.toStr (.t 46))⟩,
          ⟨some 48, none, [], .p (.iaddrA 17 1 (.t 11) (.c (.int .i64 16)))⟩,
          ⟨some 49, none, [], .r (.load1 (.t 48))⟩,
          ⟨some 50, none, [], .p (.conv .u64 (.t 49))⟩,
          ⟨some 51, none, [], .call 56020 4 true (.f 29) [.t 47, .t 50]⟩,
          ⟨some 52, none, [], .p (.mv (.c (.int .i64 0)))⟩]) (
      .block 3 (
        .loop k19_1 a19_1 s19_b1))) (
    .region [
      ⟨some 63, none, [], .r (.loadN 5 (.t 8))⟩,
      ⟨some 64, none, [], .call 76004 4 false (.f 30) [.t 9, .t 63]⟩]))))))))

def s19 : SFunc := ⟨
  .seq (
    .region [
      ⟨some 4, none, [], .p (.mv (.c (.str [])))⟩,
      ⟨some 5, none, [], .p (.mv (.c (.int .i64 0)))⟩]) (
  .seq (
    .block 0 (
      .seq (
        .region [
          ⟨some 15, none, [], .p (.mv (.t 0))⟩,
          ⟨some 16, none, [], .p (.lenV false (.t 15))⟩,
          ⟨some 17, none, [], .p (.bin .neq (.t 16) (.c (.int .i64 32)))⟩,
          ⟨some 14, none, [], .p (.mv (.t 17))⟩]) (
      .cond (.t 14) (
        .seq (
          .region [
            ⟨some 4, none, [], .p (.mv (.c (.str [])))⟩,
            ⟨some 5, none, [], .p (.mv (.c (.int .i64 7)))⟩]) (
        .ret)) (
        .seq (
          .region [
            ⟨some 19, none, [], .p (.mv (.t 1))⟩,
            ⟨some 20, none, [], .p (.lenV false (.t 19))⟩,
            ⟨some 21, none, [], .p (.bin .gtr (.t 20) (.c (.int .i64 65536)))⟩,
            ⟨some 18, none, [], .p (.mv (.t 21))⟩]) (
        .cond (.t 18) (
          .seq (
            .region [
              ⟨some 4, none, [], .p (.mv (.c (.str [])))⟩,
              ⟨some 5, none, [], .p (.mv (.c (.int .i64 5)))⟩]) (
          .ret)) (
          .skip)))))) (
  .seq (
    .region [
      ⟨some 23, none, [], .p (.mv (.t 0))⟩,
      ⟨some 24, none, [], .p (.slcStr (.t 23) none (some (.c (.int .i64 16))))⟩,
      ⟨some 25, none, [], .call 20008 4 true (.f 16) [.t 24]⟩,
      ⟨some 22, none, [], .p (.mv (.t 25))⟩,
      ⟨some 26, none, [], .p (.extract (.t 22) 0)⟩,
      ⟨some 27, none, [], .p (.extract (.t 22) 1)⟩,
      ⟨some 6, none, [], .p (.mv (.t 26))⟩,
      ⟨some 7, none, [], .p (.mv (.t 27))⟩]) (
  .seq (
    .region [
      ⟨some 28, none, [], .p (.mv (.t 6))⟩,
      ⟨some 29, none, [], .call 24004 4 true (.f 29) [.t 28, .c (u64 0#64)]⟩,
      ⟨some 8, none, [], .a 24008 (.alloc [u64 0#64, u64 0#64, u64 0#64, u64 0#64, u64 0#64])⟩,
      ⟨none, none, [], .w (.storeN 5 (.t 8) (.t 29))⟩]) (
  .seq (
    .region [
      ⟨some 9, none, [], .a 28000 (.alloc [u64 0#64, u64 0#64, u64 0#64, u64 0#64, u64 0#64])⟩]) (
  .seq (
    .block 1 (
      .loop k19_0 a19_0 s19_b0)) (
  .seq (
    .region [
      ⟨some 65, none, [], .call 80000 4 false (.f 31) [.t 9]⟩]) (
  .seq (
    .region [
      ⟨some 66, none, [], .r (.loadN 5 (.t 9))⟩,
      ⟨some 67, none, [], .p (.mv (.t 0))⟩,
      ⟨some 68, none, [], .p (.slcStr (.t 67) (some (.c (.int .i64 16))) none)⟩,
      ⟨some 69, none, [], .call 84012 4 true (.f 32) [.t 66, .t 68]⟩,
      ⟨some 4, none, [], .p (.mv (.t 69))⟩,
      ⟨some 5, none, [], .p (.mv (.c (.int .i64 0)))⟩]) (
  .ret)))))))),
  70, [Sum.inl 4, Sum.inl 5]⟩

theorem c19 : cFunc Try.prog quiet Try.f19 [[0, 1, 8, 9], [0, 9], [0, 1, 8, 9, 51, 52], [0, 1, 8, 9]] = some s19 := by kernel_rfl

-- 20 calls [17, 33, 34]
abbrev k20_3 : List Nat := [0, 9, 14, 15, 16]
abbrev a20_3 : List Nat := [14]
abbrev e20_3 (v0 v9 v14 v15 v16 : AV) : Env := [v0, .dead, .dead, .dead, .dead, .dead, .dead, .dead, .dead, v9, .dead, .dead, .dead, .dead, v14, v15, v16, .dead, .dead, .dead, .dead, .dead, .dead, .dead, .dead, .dead, .dead, .dead, .dead, .dead, .dead, .dead, .dead, .dead, .dead, .dead, .dead, .dead, .dead, .dead, .dead, .dead, .dead, .dead, .dead, .dead, .dead, .dead, .dead, .dead, .dead, .dead, .dead, .dead, .dead, .dead, .dead, .dead, .dead, .dead, .dead, .dead, .dead, .dead, .dead, .dead, .dead, .dead, .dead, .dead, .dead, .dead, .dead, .dead, .dead, .dead, .dead, .dead, .dead, .dead, .dead, .dead, .dead, .dead, .dead, .dead, .dead, .dead, .dead, .dead, .dead, .dead, .dead, .dead, .dead, .dead, .dead, .dead]
abbrev x20_3 (v14 : AV) : Env := [.dead, .dead, .dead, .dead, .dead, .dead, .dead, .dead, .dead, .dead, .dead, .dead, .dead, .dead, v14, .dead, .dead, .dead, .dead, .dead, .dead, .dead, .dead, .dead, .dead, .dead, .dead, .dead, .dead, .dead, .dead, .dead, .dead, .dead, .dead, .dead, .dead, .dead, .dead, .dead, .dead, .dead, .dead, .dead, .dead, .dead, .dead, .dead, .dead, .dead, .dead, .dead, .dead, .dead, .dead, .dead, .dead, .dead, .dead, .dead, .dead, .dead, .dead, .dead, .dead, .dead, .dead, .dead, .dead, .dead, .dead, .dead, .dead, .dead, .dead, .dead, .dead, .dead, .dead, .dead, .dead, .dead, .dead, .dead, .dead, .dead, .dead, .dead, .dead, .dead, .dead, .dead, .dead, .dead, .dead, .dead, .dead, .dead]
def s20_b3 : SCode :=
  .seq (
    .seq (
      .region [
        ⟨some 73, none, [], .p (.mv (.t 16))⟩,
        ⟨some 74, none, [], .p (.bin .lss (.t 73) (.c (.int .i64 16)))⟩]) (
    .cond (.t 74) (
      .skip) (
      .exit 6))) (
  .seq (
    .block 7 (
      .seq (
        .region [
          ⟨some 77, none, [], .p (.mv (.t 15))⟩,
          ⟨some 78, none, [], .p (.mv (.t 16))⟩,
          ⟨some 79, none, [], .p (.iaddrA 17 1 (.t 9) (.t 78))⟩,
          ⟨some 80, none, [], .r (.load1 (.t 79))⟩,
          ⟨some 81, none, [], .p (.bin .add (.t 77) (.t 80))⟩,
          ⟨some 82, none, [], .p (.mv (.t 0))⟩,
          ⟨some 83, none, [], .p (.mv (.t 16))⟩,
          ⟨some 84, none, [], .p (.bin .add (.c (.int .i64 16)) (.t 83))⟩,
          ⟨some 85, none, [], .p (.idxStr (.t 82) (.t 84))⟩,
          ⟨some 86, none, [], .p (.conv .i64 (.t 85))⟩,
          ⟨some 87, none, [], .p (.bin .add (.t 81) (.t 86))⟩,
          ⟨some 15, none, [], .p (.mv (.t 87))⟩]) (
      .seq (
        .region [
          ⟨some 88, none, [], .p (.mv (.t 14))⟩,
          ⟨some 89, none, [], .p (.mv (.t 15))⟩,
          ⟨some 90, none, [], .p (.bin .rem (.t 89) (.c (.int .i64 256)))⟩,
          ⟨some 91, none, [], .p (.conv .u8 (.t 90))⟩,
          ⟨some 92, none, [], .a 112016 (.buildS 1 1 [byteAV 0] [(0, 1, .t 91)])⟩,
          ⟨some 93, none, [], .w (.append 112020 1 1 (.t 88) (.t 92))⟩,
          ⟨some 14, none, [], .p (.mv (.t 93))⟩]) (
      .region [
        ⟨some 94, none, [], .p (.mv (.t 15))⟩,
        ⟨some 95, none, [], .p (.bin .quo (.t 94) (.c (.int .i64 256)))⟩,
        ⟨some 15, none, [], .p (.mv (.t 95))⟩])))) (
  .region [
    ⟨some 75, none, [], .p (.mv (.t 16))⟩,
    ⟨some 76, none, [], .p (.bin .add (.t 75) (.c (.int .i64 1)))⟩,
    ⟨some 16, none, [], .p (.mv (.t 76))⟩]))

abbrev k20_2 : List Nat := [0, 1, 8, 9, 11, 12, 13]
abbrev a20_2 : List Nat := [0, 1, 8, 9, 11, 12, 13]
abbrev e20_2 (v0 v1 v8 v9 v11 v12 v13 : AV) : Env := [v0, v1, .dead, .dead, .dead, .dead, .dead, .dead, v8, v9, .dead, v11, v12, v13, .dead, .dead, .dead, .dead, .dead, .dead, .dead, .dead, .dead, .dead, .dead, .dead, .dead, .dead, .dead, .dead, .dead, .dead, .dead, .dead, .dead, .dead, .dead, .dead, .dead, .dead, .dead, .dead, .dead, .dead, .dead, .dead, .dead, .dead, .dead, .dead, .dead, .dead, .dead, .dead, .dead, .dead, .dead, .dead, .dead, .dead, .dead, .dead, .dead, .dead, .dead, .dead, .dead, .dead, .dead, .dead, .dead, .dead, .dead, .dead, .dead, .dead, .dead, .dead, .dead, .dead, .dead, .dead, .dead, .dead, .dead, .dead, .dead, .dead, .dead, .dead, .dead, .dead, .dead, .dead, .dead, .dead, .dead, .dead]
abbrev x20_2 (v0 v1 v8 v9 v11 v12 v13 : AV) : Env := [v0, v1, .dead, .dead, .dead, .dead, .dead, .dead, v8, v9, .dead, v11, v12, v13, .dead, .dead, .dead, .dead, .dead, .dead, .dead, .dead, .dead, .dead, .dead, .dead, .dead, .dead, .dead, .dead, .dead, .dead, .dead, .dead, .dead, .dead, .dead, .dead, .dead, .dead, .dead, .dead, .dead, .dead, .dead, .dead, .dead, .dead, .dead, .dead, .dead, .dead, .dead, .dead, .dead, .dead, .dead, .dead, .dead, .dead, .dead, .dead, .dead, .dead, .dead, .dead, .dead, .dead, .dead, .dead, .dead, .dead, .dead, .dead, .dead, .dead, .dead, .dead, .dead, .dead, .dead, .dead, .dead, .dead, .dead, .dead, .dead, .dead, .dead, .dead, .dead, .dead, .dead, .dead, .dead, .dead, .dead, .dead]
def s20_b2 : SCode :=
  .seq (
    .seq (
      .region [
        ⟨some 45, none, [], .p (.mv (.t 13))⟩,
        ⟨some 46, none, [], .p (.bin .lss (.t 45) (.c (.int .i64 16)))⟩,
        ⟨some 47, none, [], .p (.mv (.t 46))⟩,
        ⟨some 48, some (47, true), [], .p (.mv (.t 11))⟩,
        ⟨some 49, some (47, true), [], .p (.mv (.t 13))⟩,
        ⟨some 50, some (47, true), [], .p (.bin .add (.t 48) (.t 49))⟩,
        ⟨some 51, some (47, true), [], .p (.mv (.t 1))⟩,
        ⟨some 52, some (47, true), [], .p (.lenV false (.t 51))⟩,
        ⟨some 53, some (47, true), [], .p (.bin .lss (.t 50) (.t 52))⟩,
        ⟨some 54, none, [], .p (.pick (.t 47) (.t 53) (.c (.bool false)))⟩]) (
    .cond (.t 54) (
      .skip) (
      .exit 4))) (
  .block 5 (
    .seq (
      .region [
        ⟨some 55, none, [], .p (.mv (.t 13))⟩,
        ⟨some 56, none, [], .p (.mv (.t 1))⟩,
        ⟨some 57, none, [], .p (.mv (.t 11))⟩,
        ⟨some 58, none, [], .p (.mv (.t 13))⟩,
        ⟨some 59, none, [], .p (.bin .add (.t 57) (.t 58))⟩,
        ⟨some 60, none, [], .p (.idxStr (.t 56) (.t 59))⟩,
        ⟨some 61, none, [], .p (.conv .i64 (.t 60))⟩,
        ⟨some 62, none, [], .p (.iaddrA 17 1 (.t 12) (.t 55))⟩,
        ⟨none, none, [], .w (.store1 (.t 62) (.t 61))⟩]) (
    .region [
      ⟨some 63, none, [], .p (.mv (.t 13))⟩,
      ⟨some 64, none, [], .p (.bin .add (.t 63) (.c (.int .i64 1)))⟩,
      ⟨some 13, none, [], .p (.mv (.t 64))⟩])))

abbrev k20_1 : List Nat := [0, 1, 8, 9, 11]
abbrev a20_1 : List Nat := [0, 9]
abbrev e20_1 (v0 v1 v8 v9 v11 : AV) : Env := [v0, v1, .dead, .dead, .dead, .dead, .dead, .dead, v8, v9, .dead, v11, .dead, .dead, .dead, .dead, .dead, .dead, .dead, .dead, .dead, .dead, .dead, .dead, .dead, .dead, .dead, .dead, .dead, .dead, .dead, .dead, .dead, .dead, .dead, .dead, .dead, .dead, .dead, .dead, .dead, .dead, .dead, .dead, .dead, .dead, .dead, .dead, .dead, .dead, .dead, .dead, .dead, .dead, .dead, .dead, .dead, .dead, .dead, .dead, .dead, .dead, .dead, .dead, .dead, .dead, .dead, .dead, .dead, .dead, .dead, .dead, .dead, .dead, .dead, .dead, .dead, .dead, .dead, .dead, .dead, .dead, .dead, .dead, .dead, .dead, .dead, .dead, .dead, .dead, .dead, .dead, .dead, .dead, .dead, .dead, .dead, .dead]
abbrev x20_1 (v0 v9 : AV) : Env := [v0, .dead, .dead, .dead, .dead, .dead, .dead, .dead, .dead, v9, .dead, .dead, .dead, .dead, .dead, .dead, .dead, .dead, .dead, .dead, .dead, .dead, .dead, .dead, .dead, .dead, .dead, .dead, .dead, .dead, .dead, .dead, .dead, .dead, .dead, .dead, .dead, .dead, .dead, .dead, .dead, .dead, .dead, .dead, .dead, .dead, .dead, .dead, .dead, .dead, .dead, .dead, .dead, .dead, .dead, .dead, .dead, .dead, .dead, .dead, .dead, .dead, .dead, .dead, .dead, .dead, .dead, .dead, .dead, .dead, .dead, .dead, .dead, .dead, .dead, .dead, .dead, .dead, .dead, .dead, .dead, .dead, .dead, .dead, .dead, .dead, .dead, .dead, .dead, .dead, .dead, .dead, .dead, .dead, .dead, .dead, .dead, .dead]
def s20_b1 : SCode :=
  .seq (
    .seq (
      .region [
        ⟨some 39, none, [], .p (.mv (.t 11))⟩,
        ⟨some 40, none, [], .p (.mv (.t 1))⟩,
        ⟨some 41, none, [], .p (.lenV false (.t 40))⟩,
        ⟨some 42, none, [], .p (.bin .lss (.t 39) (.t 41))⟩]) (
    .cond (.t 42) (
      .skip) (
      .exit 2))) (
  .seq (
    .block 3 (
      .seq (
        .region [
          ⟨some 12, none, [], .a 56000 (.alloc [.int .i64 0, .int .i64 0, .int .i64 0, .int .i64 0, .int .i64 0, .int .i64 0, .int .i64 0, .int .i64 0, .int .i64 0, .int .i64 0, .int .i64 0, .int .i64 0, .int .i64 0, .int .i64 0, .int .i64 0, .int .i64 0, .int .i64 0])⟩]) (
      .seq (
        .region [
          ⟨some 13, none, [], .p (.mv (.c (.int .i64 0)))⟩]) (
      .seq (
        .block 4 (
          .loop k20_2 a20_2 s20_b2)) (
      .seq (
        .region [
          ⟨some 65, none, [], .p (.mv (.t 13))⟩,
          ⟨some 66, none, [], .p (.iaddrA 17 1 (.t 12) (.t 65))⟩,
          ⟨none, none, [], .w (.store1 (.t 66) (.c (.int .i64 1)))⟩]) (
      .seq (
        .region [
          ⟨some 67, none, [], .r (.loadN 17 (.t 9))⟩,
          ⟨some 68, none, [], .r (.loadN 17 (.t 12))⟩,
          ⟨some 69, none, [], .call 80008 4 true (.f 33) [.t 67, .t 68]⟩,
          ⟨none, none, [], .w (.storeN 17 (.t 9) (.t 69))⟩]) (
      .region [
        ⟨some 70, none, [], .r (.loadN 17 (.t 9))⟩,
        ⟨some 71, none, [], .r (.loadN 17 (.t 8))⟩,
        ⟨some 72, none, [], .call 84008 4 true (.f 34) [.t 70, .t 71]⟩,
        ⟨none, none, [], .w (.storeN 17 (.t 9) (.t 72))⟩]))))))) (
  .region [
    ⟨some 43, none, [], .p (.mv (.t 11))⟩,
    ⟨some 44, none, [], .p (.bin .add (.t 43) (.c (.int .i64 16)))⟩,
    ⟨some 11, none, [], .p (.mv (.t 44))⟩]))

abbrev k20_0 : List Nat := [0, 1, 6, 8, 9, 10]
abbrev a20_0 : List Nat := [0, 1, 8, 9]
abbrev e20_0 (v0 v1 v6 v8 v9 v10 : AV) : Env := [v0, v1, .dead, .dead, .dead, .dead, v6, .dead, v8, v9, v10, .dead, .dead, .dead, .dead, .dead, .dead, .dead, .dead, .dead, .dead, .dead, .dead, .dead, .dead, .dead, .dead, .dead, .dead, .dead, .dead, .dead, .dead, .dead, .dead, .dead, .dead, .dead, .dead, .dead, .dead, .dead, .dead, .dead, .dead, .dead, .dead, .dead, .dead, .dead, .dead, .dead, .dead, .dead, .dead, .dead, .dead, .dead, .dead, .dead, .dead, .dead, .dead, .dead, .dead, .dead, .dead, .dead, .dead, .dead, .dead, .dead, .dead, .dead, .dead, .dead, .dead, .dead, .dead, .dead, .dead, .dead, .dead, .dead, .dead, .dead, .dead, .dead, .dead, .dead, .dead, .dead, .dead, .dead, .dead, .dead, .dead, .dead]
abbrev x20_0 (v0 v1 v8 v9 : AV) : Env := [v0, v1, .dead, .dead, .dead, .dead, .dead, .dead, v8, v9, .dead, .dead, .dead, .dead, .dead, .dead, .dead, .dead, .dead, .dead, .dead, .dead, .dead, .dead, .dead, .dead, .dead, .dead, .dead, .dead, .dead, .dead, .dead, .dead, .dead, .dead, .dead, .dead, .dead, .dead, .dead, .dead, .dead, .dead, .dead, .dead, .dead, .dead, .dead, .dead, .dead, .dead, .dead, .dead, .dead, .dead, .dead, .dead, .dead, .dead, .dead, .dead, .dead, .dead, .dead, .dead, .dead, .dead, .dead, .dead, .dead, .dead, .dead, .dead, .dead, .dead, .dead, .dead, .dead, .dead, .dead, .dead, .dead, .dead, .dead, .dead, .dead, .dead, .dead, .dead, .dead, .dead, .dead, .dead, .dead, .dead, .dead, .dead]
def s20_b0 : SCode :=
  .seq (
    .seq (
      .region [
        ⟨some 29, none, [], .p (.mv (.t 10))⟩,
        ⟨some 30, none, [], .p (.bin .lss (.t 29) (.c (.int .i64 16)))⟩]) (
    .cond (.t 30) (
      .skip) (
      .exit 0))) (
  .seq (
    .block 1 (
      .region [
        ⟨some 33, none, [], .p (.mv (.t 10))⟩,
        ⟨some 34, none, [], .p (.mv (.t 6))⟩,
        ⟨some 35, none, [], .p (.mv (.t 10))⟩,
        ⟨some 36, none, [], .p (.idxStr (.t 34) (.t 35))⟩,
        ⟨some 37, none, [], .p (.conv .i64 (.t 36))⟩,
        ⟨some 38, none, [], .p (.iaddrA 17 1 (.t 8) (.t 33))⟩,
        ⟨none, none, [], .w (.store1 (.t 38) (.t 37))⟩])) (
  .region [
    ⟨some 31, none, [], .p (.mv (.t 10))⟩,
    ⟨some 32, none, [], .p (.bin .add (.t 31) (.c (.int .i64 1)))⟩,
    ⟨some 10, none, [], .p (.mv (.t 32))⟩]))

def s20 : SFunc := ⟨
  .seq (
    .region [
      ⟨some 4, none, [], .p (.mv (.c (.str [])))⟩,
      ⟨some 5, none, [], .p (.mv (.c (.int .i64 0)))⟩]) (
  .seq (
    .seq (
      .region [
        ⟨some 17, none, [], .p (.mv (.t 0))⟩,
        ⟨some 18, none, [], .p (.lenV false (.t 17))⟩,
        ⟨some 19, none, [], .p (.bin .neq (.t 18) (.c (.int .i64 32)))⟩]) (
    .cond (.t 19) (
      .seq (
        .region [
          ⟨some 4, none, [], .p (.mv (.c (.str [])))⟩,
          ⟨some 5, none, [], .p (.mv (.c (.int .i64 7)))⟩]) (
      .ret)) (
      .skip))) (
  .seq (
    .seq (
      .region [
        ⟨some 20, none, [], .p (.mv (.t 1))⟩,
        ⟨some 21, none, [], .p (.lenV false (.t 20))⟩,
        ⟨some 22, none, [], .p (.bin .gtr (.t 21) (.c (.int .i64 65536)))⟩]) (
    .cond (.t 22) (
      .seq (
        .region [
          ⟨some 4, none, [], .p (.mv (.c (.str [])))⟩,
          ⟨some 5, none, [], .p (.mv (.c (.int .i64 5)))⟩]) (
      .ret)) (
      .skip))) (
  .seq (
    .region [
      ⟨some 24, none, [], .p (.mv (.t 0))⟩,
      ⟨some 25, none, [], .p (.slcStr (.t 24) none (some (.c (.int .i64 16))))⟩,
      ⟨some 26, none, [], .call 20008 4 true (.f 17) [.t 25]⟩,
      ⟨some 23, none, [], .p (.mv (.t 26))⟩,
      ⟨some 27, none, [], .p (.extract (.t 23) 0)⟩,
      ⟨some 28, none, [], .p (.extract (.t 23) 1)⟩,
      ⟨some 6, none, [], .p (.mv (.t 27))⟩,
      ⟨some 7, none, [], .p (.mv (.t 28))⟩]) (
  .seq (
    .region [
      ⟨some 8, none, [], .a 24000 (.alloc [.int .i64 0, .int .i64 0, .int .i64 0, .int .i64 0, .int .i64 0, .int .i64 0, .int .i64 0, .int .i64 0, .int .i64 0, .int .i64 0, .int .i64 0, .int .i64 0, .int .i64 0, .int .i64 0, .int .i64 0, .int .i64 0, .int .i64 0])⟩,
      ⟨some 9, none, [], .a 24004 (.alloc [.int .i64 0, .int .i64 0, .int .i64 0, .int .i64 0, .int .i64 0, .int .i64 0, .int .i64 0, .int .i64 0, .int .i64 0, .int .i64 0, .int .i64 0, .int .i64 0, .int .i64 0, .int .i64 0, .int .i64 0, .int .i64 0, .int .i64 0])⟩]) (
  .seq (
    .seq (
      .region [
        ⟨some 10, none, [], .p (.mv (.c (.int .i64 0)))⟩]) (
    .block 0 (
      .loop k20_0 a20_0 s20_b0))) (
  .seq (
    .seq (
      .region [
        ⟨some 11, none, [], .p (.mv (.c (.int .i64 0)))⟩]) (
    .block 2 (
      .loop k20_1 a20_1 s20_b1))) (
  .seq (
    .region [
      ⟨some 14, none, [], .p (.mv (.c (.slice none 0 0)))⟩]) (
  .seq (
    .region [
      ⟨some 15, none, [], .p (.mv (.c (.int .i64 0)))⟩]) (
  .seq (
    .seq (
      .region [
        ⟨some 16, none, [], .p (.mv (.c (.int .i64 0)))⟩]) (
    .block 6 (
      .loop k20_3 a20_3 s20_b3))) (
  .seq (
    .region [
      ⟨some 96, none, [], .p (.mv (.t 14))⟩,
      ⟨some 97, none, [], .r (.toStr (.t 96))⟩,
      ⟨some 4, none, [], .p (.mv (.t 97))⟩,
      ⟨some 5, none, [], .p (.mv (.c (.int .i64 0)))⟩]) (
  .ret))))))))))),
  98, [Sum.inl 4, Sum.inl 5]⟩

theorem c20 : cFunc Try.prog quiet Try.f20 [[0, 1, 6, 8, 9, 10], [0, 1, 8, 9], [0, 1, 8, 9, 11], [0, 9], [0, 1, 8, 9, 11, 12, 13], [0, 1, 8, 9, 11, 12, 13], [0, 9, 14, 15, 16], [14]] = some s20 := by kernel_rfl

-- 21 calls []
def s21 : SFunc := ⟨
  .seq (
    .region [
      ⟨some 1, none, [], .a 0 (.box (.t 0))⟩,
      ⟨some 2, none, [], .p (.mv (.c (.str [])))⟩,
      ⟨some 3, none, [], .p (.mv (.c (.str [])))⟩]) (
  .seq (
    .region [
      ⟨some 4, none, [], .p (.faddr 0 (.t 1))⟩,
      ⟨some 5, none, [], .p (.faddr 44 (.t 1))⟩,
      ⟨some 6, none, [], .p (.iaddrA 2 1 (.t 5) (.c (.int .i64 0)))⟩,
      ⟨some 7, none, [], .r (.load1 (.t 6))⟩,
      ⟨some 8, none, [], .p (.minmax false (.t 7) (.c (byteAV 32)))⟩,
      ⟨some 9, none, [], .p (.bin .sub (.c (byteAV 32)) (.t 8))⟩,
      ⟨some 10, none, [], .p (.slcA 32 1 (.t 4) none (some (.t 9)))⟩,
      ⟨some 11, none, [], .r (.toStr (.t 10))⟩,
      ⟨some 12, none, [], .p (.faddr 32 (.t 1))⟩,
      ⟨some 13, none, [], .p (.faddr 44 (.t 1))⟩,
      ⟨some 14, none, [], .p (.iaddrA 2 1 (.t 13) (.c (.int .i64 1)))⟩,
      ⟨some 15, none, [], .r (.load1 (.t 14))⟩,
      ⟨some 16, none, [], .p (.minmax false (.t 15) (.c (byteAV 12)))⟩,
      ⟨some 17, none, [], .p (.bin .sub (.c (byteAV 12)) (.t 16))⟩,
      ⟨some 18, none, [], .p (.slcA 12 1 (.t 12) none (some (.t 17)))⟩,
      ⟨some 19, none, [], .r (.toStr (.t 18))⟩,
      ⟨some 2, none, [], .p (.mv (.t 11))⟩,
      ⟨some 3, none, [], .p (.mv (.t 19))⟩]) (
  .ret)),
  20, [Sum.inl 2, Sum.inl 3]⟩

theorem c21 : cFunc Try.prog quiet Try.f21 [] = some s21 := by kernel_rfl

-- 22 calls [35, 36, 37]
def s22 : SFunc := ⟨
  .seq (
    .region [
      ⟨some 8, none, [], .p (.mv (.c (.str [])))⟩,
      ⟨some 9, none, [], .p (.mv (.c (.int .i64 0)))⟩]) (
  .seq (
    .block 0 (
      .seq (
        .region [
          ⟨some 13, none, [], .p (.mv (.t 0))⟩,
          ⟨some 14, none, [], .p (.mv (.t 1))⟩,
          ⟨some 15, none, [], .call 4008 4 true (.f 35) [.t 13, .t 14]⟩,
          ⟨some 16, none, [], .p (.un .not (.t 15))⟩,
          ⟨some 12, none, [], .p (.mv (.t 16))⟩]) (
      .cond (.t 12) (
        .seq (
          .region [
            ⟨some 8, none, [], .p (.mv (.c (.str [])))⟩,
            ⟨some 9, none, [], .p (.mv (.c (.int .i64 7)))⟩]) (
        .ret)) (
        .seq (
          .region [
            ⟨some 18, none, [], .p (.mv (.t 2))⟩,
            ⟨some 19, none, [], .p (.lenV false (.t 18))⟩,
            ⟨some 20, none, [], .p (.bin .gtr (.t 19) (.c (.int .i64 16384)))⟩,
            ⟨some 21, none, [], .p (.mv (.t 20))⟩,
            ⟨some 22, some (21, false), [], .p (.mv (.t 3))⟩,
            ⟨some 23, some (21, false), [], .p (.lenV false (.t 22))⟩,
            ⟨some 24, some (21, false), [], .p (.bin .gtr (.t 23) (.c (.int .i64 16384)))⟩,
            ⟨some 25, none, [], .p (.pick (.t 21) (.c (.bool true)) (.t 24))⟩,
            ⟨some 17, none, [], .p (.mv (.t 25))⟩]) (
        .cond (.t 17) (
          .seq (
            .region [
              ⟨some 8, none, [], .p (.mv (.c (.str [])))⟩,
              ⟨some 9, none, [], .p (.mv (.c (.int .i64 5)))⟩]) (
          .ret)) (
          .skip)))))) (
  .seq (
    .region [
      ⟨some 27, none, [], .p (.mv (.t 0))⟩,
      ⟨some 28, none, [], .p (.mv (.t 1))⟩,
      ⟨some 29, none, [], .p (.mv (.t 3))⟩,
      ⟨some 30, none, [], .call 20012 4 true (.f 36) [.t 27, .t 28, .c (u32 1#32), .t 29]⟩,
      ⟨some 26, none, [], .p (.mv (.t 30))⟩,
      ⟨some 31, none, [], .p (.extract (.t 26) 0)⟩,
      ⟨some 32, none, [], .p (.extract (.t 26) 1)⟩,
      ⟨some 10, none, [], .p (.mv (.t 31))⟩,
      ⟨some 11, none, [], .p (.mv (.t 32))⟩]) (
  .seq (
    .region [
      ⟨some 33, none, [], .p (.mv (.t 10))⟩,
      ⟨some 34, none, [], .p (.mv (.t 0))⟩,
      ⟨some 35, none, [], .p (.mv (.t 1))⟩,
      ⟨some 36, none, [], .p (.mv (.t 2))⟩,
      ⟨some 37, none, [], .p (.mv (.t 10))⟩,
      ⟨some 38, none, [], .call 24020 4 true (.f 37) [.t 34, .t 35, .t 36, .t 37]⟩,
      ⟨some 39, none, [], .p (.bin .add (.t 33) (.t 38))⟩,
      ⟨some 8, none, [], .p (.mv (.t 39))⟩,
      ⟨some 9, none, [], .p (.mv (.c (.int .i64 0)))⟩]) (
  .ret)))),
  40, [Sum.inl 8, Sum.inl 9]⟩

theorem c22 : cFunc Try.prog quiet Try.f22 [] = some s22 := by kernel_rfl

-- 23 calls [38, 39]
def s23 : SFunc := ⟨
  .seq (
    .region [
      ⟨some 8, none, [], .p (.mv (.c (.str [])))⟩,
      ⟨some 9, none, [], .p (.mv (.c (.int .i64 0)))⟩]) (
  .seq (
    .seq (
      .region [
        ⟨some 13, none, [], .p (.mv (.t 0))⟩,
        ⟨some 14, none, [], .p (.lenV false (.t 13))⟩,
        ⟨some 15, none, [], .p (.bin .neq (.t 14) (.c (.int .i64 32)))⟩,
        ⟨some 16, none, [], .p (.mv (.t 15))⟩,
        ⟨some 17, some (16, false), [], .p (.mv (.t 1))⟩,
        ⟨some 18, some (16, false), [], .p (.lenV false (.t 17))⟩,
        ⟨some 19, some (16, false), [], .p (.bin .neq (.t 18) (.c (.int .i64 12)))⟩,
        ⟨some 20, none, [], .p (.pick (.t 16) (.c (.bool true)) (.t 19))⟩]) (
    .cond (.t 20) (
      .seq (
        .region [
          ⟨some 8, none, [], .p (.mv (.c (.str [])))⟩,
          ⟨some 9, none, [], .p (.mv (.c (.int .i64 7)))⟩]) (
      .ret)) (
      .skip))) (
  .seq (
    .seq (
      .region [
        ⟨some 21, none, [], .p (.mv (.t 2))⟩,
        ⟨some 22, none, [], .p (.lenV false (.t 21))⟩,
        ⟨some 23, none, [], .p (.bin .gtr (.t 22) (.c (.int .i64 16384)))⟩,
        ⟨some 24, none, [], .p (.mv (.t 23))⟩,
        ⟨some 25, some (24, false), [], .p (.mv (.t 3))⟩,
        ⟨some 26, some (24, false), [], .p (.lenV false (.t 25))⟩,
        ⟨some 27, some (24, false), [], .p (.bin .gtr (.t 26) (.c (.int .i64 16384)))⟩,
        ⟨some 28, none, [], .p (.pick (.t 24) (.c (.bool true)) (.t 27))⟩]) (
    .cond (.t 28) (
      .seq (
        .region [
          ⟨some 8, none, [], .p (.mv (.c (.str [])))⟩,
          ⟨some 9, none, [], .p (.mv (.c (.int .i64 5)))⟩]) (
      .ret)) (
      .skip))) (
  .seq (
    .region [
      ⟨some 30, none, [], .p (.mv (.t 0))⟩,
      ⟨some 31, none, [], .p (.mv (.t 1))⟩,
      ⟨some 32, none, [], .p (.mv (.t 3))⟩,
      ⟨some 33, none, [], .call 20012 4 true (.f 38) [.t 30, .t 31, .c (u32 1#32), .t 32]⟩,
      ⟨some 29, none, [], .p (.mv (.t 33))⟩,
      ⟨some 34, none, [], .p (.extract (.t 29) 0)⟩,
      ⟨some 35, none, [], .p (.extract (.t 29) 1)⟩,
      ⟨some 10, none, [], .p (.mv (.t 34))⟩,
      ⟨some 11, none, [], .p (.mv (.t 35))⟩]) (
  .seq (
    .region [
      ⟨some 36, none, [], .p (.mv (.t 0))⟩,
      ⟨some 37, none, [], .p (.mv (.t 1))⟩,
      ⟨some 38, none, [], .p (.mv (.t 2))⟩,
      ⟨some 39, none, [], .p (.mv (.t 10))⟩,
      ⟨some 40, none, [], .call 24016 4 true (.f 39) [.t 36, .t 37, .t 38, .t 39]⟩,
      ⟨some 12, none, [], .p (.mv (.t 40))⟩]) (
  .seq (
    .region [
      ⟨some 41, none, [], .p (.mv (.t 10))⟩,
      ⟨some 42, none, [], .p (.mv (.t 12))⟩,
      ⟨some 43, none, [], .p (.bin .add (.t 41) (.t 42))⟩,
      ⟨some 8, none, [], .p (.mv (.t 43))⟩,
      ⟨some 9, none, [], .p (.mv (.c (.int .i64 0)))⟩]) (
  .ret)))))),
  44, [Sum.inl 8, Sum.inl 9]⟩

theorem c23 : cFunc Try.prog quiet Try.f23 [] = some s23 := by kernel_rfl

-- 24 calls [22, 25]
def s24 : SFunc := ⟨
  .seq (
    .region [
      ⟨some 0, none, [], .p (.mv (.c (.bool false)))⟩]) (
  .seq (
    .region [
      ⟨some 9, none, [4008], .a 4000 (.mkSlice 1 1 [byteAV 0] (.c (.int .i64 32)) (.c (.int .i64 32)))⟩,
      ⟨some 10, none, [4008], .r (.toStr (.t 9))⟩,
      ⟨some 11, none, [4000], .a 4008 (.mkSlice 1 1 [byteAV 0] (.c (.int .i64 12)) (.c (.int .i64 12)))⟩,
      ⟨some 12, none, [4000], .r (.toStr (.t 11))⟩,
      ⟨some 1, none, [], .p (.mv (.t 10))⟩,
      ⟨some 2, none, [], .p (.mv (.t 12))⟩]) (
  .seq (
    .region [
      ⟨some 14, none, [], .p (.mv (.t 1))⟩,
      ⟨some 15, none, [], .p (.mv (.t 2))⟩,
      ⟨some 16, none, [], .call 8008 4 true (.f 22) [.t 14, .t 15, .c (.str [119]), .c (.str [112, 108, 97, 105, 110])]⟩,
      ⟨some 13, none, [], .p (.mv (.t 16))⟩,
      ⟨some 17, none, [], .p (.extract (.t 13) 0)⟩,
      ⟨some 18, none, [], .p (.extract (.t 13) 1)⟩,
      ⟨some 3, none, [], .p (.mv (.t 17))⟩,
      ⟨some 4, none, [], .p (.mv (.t 18))⟩]) (
  .seq (
    .region [
      ⟨some 20, none, [], .p (.mv (.t 1))⟩,
      ⟨some 21, none, [], .p (.mv (.t 2))⟩,
      ⟨some 22, none, [], .p (.mv (.t 3))⟩,
      ⟨some 23, none, [], .call 12012 4 true (.f 25) [.t 20, .t 21, .c (.str [119]), .t 22]⟩,
      ⟨some 19, none, [], .p (.mv (.t 23))⟩,
      ⟨some 24, none, [], .p (.extract (.t 19) 0)⟩,
      ⟨some 25, none, [], .p (.extract (.t 19) 1)⟩,
      ⟨some 5, none, [], .p (.mv (.t 24))⟩,
      ⟨some 6, none, [], .p (.mv (.t 25))⟩]) (
  .seq (
    .region [
      ⟨some 27, none, [], .p (.mv (.t 1))⟩,
      ⟨some 28, none, [], .p (.mv (.t 2))⟩,
      ⟨some 29, none, [], .p (.mv (.t 3))⟩,
      ⟨some 30, none, [], .call 16012 4 true (.f 25) [.t 27, .t 28, .c (.str [118]), .t 29]⟩,
      ⟨some 26, none, [], .p (.mv (.t 30))⟩,
      ⟨some 31, none, [], .p (.extract (.t 26) 0)⟩,
      ⟨some 32, none, [], .p (.extract (.t 26) 1)⟩,
      ⟨some 7, none, [], .p (.mv (.t 31))⟩,
      ⟨some 8, none, [], .p (.mv (.t 32))⟩]) (
  .seq (
    .region [
      ⟨some 33, none, [], .p (.mv (.t 4))⟩,
      ⟨some 34, none, [], .p (.bin .eql (.t 33) (.c (.int .i64 0)))⟩,
      ⟨some 35, none, [], .p (.mv (.t 34))⟩,
      ⟨some 36, some (35, true), [], .p (.mv (.t 6))⟩,
      ⟨some 37, some (35, true), [], .p (.bin .eql (.t 36) (.c (.int .i64 0)))⟩,
      ⟨some 38, none, [], .p (.pick (.t 35) (.t 37) (.c (.bool false)))⟩,
      ⟨some 39, none, [], .p (.mv (.t 38))⟩,
      ⟨some 40, some (39, true), [], .p (.mv (.t 5))⟩,
      ⟨some 41, some (39, true), [], .p (.bin .eql (.t 40) (.c (.str [112, 108, 97, 105, 110])))⟩,
      ⟨some 42, none, [], .p (.pick (.t 39) (.t 41) (.c (.bool false)))⟩,
      ⟨some 43, none, [], .p (.mv (.t 42))⟩,
      ⟨some 44, some (43, true), [], .p (.mv (.t 3))⟩,
      ⟨some 45, some (43, true), [], .p (.lenV false (.t 44))⟩,
      ⟨some 46, some (43, true), [], .p (.bin .eql (.t 45) (.c (.int .i64 21)))⟩,
      ⟨some 47, none, [], .p (.pick (.t 43) (.t 46) (.c (.bool false)))⟩,
      ⟨some 48, none, [], .p (.mv (.t 47))⟩,
      ⟨some 49, some (48, true), [], .p (.mv (.t 8))⟩,
      ⟨some 50, some (48, true), [], .p (.bin .eql (.t 49) (.c (.int .i64 23)))⟩,
      ⟨some 51, none, [], .p (.pick (.t 48) (.t 50) (.c (.bool false)))⟩,
      ⟨some 0, none, [], .p (.mv (.t 51))⟩]) (
  .ret)))))),
  52, [Sum.inl 0]⟩

theorem c24 : cFunc Try.prog quiet Try.f24 [] = some s24 := by kernel_rfl

-- 25 calls [15, 35, 36, 37]
def s25 : SFunc := ⟨
  .seq (
    .region [
      ⟨some 8, none, [], .p (.mv (.c (.str [])))⟩,
      ⟨some 9, none, [], .p (.mv (.c (.int .i64 0)))⟩]) (
  .seq (
    .region [
      ⟨some 11, none, [], .p (.mv (.t 3))⟩,
      ⟨some 12, none, [], .p (.lenV false (.t 11))⟩,
      ⟨some 13, none, [], .p (.bin .sub (.t 12) (.c (.int .i64 16)))⟩,
      ⟨some 10, none, [], .p (.mv (.t 13))⟩]) (
  .seq (
    .block 0 (
      .seq (
        .region [
          ⟨some 15, none, [], .p (.mv (.t 0))⟩,
          ⟨some 16, none, [], .p (.mv (.t 1))⟩,
          ⟨some 17, none, [], .call 8008 4 true (.f 35) [.t 15, .t 16]⟩,
          ⟨some 18, none, [], .p (.un .not (.t 17))⟩,
          ⟨some 14, none, [], .p (.mv (.t 18))⟩]) (
      .cond (.t 14) (
        .seq (
          .region [
            ⟨some 8, none, [], .p (.mv (.c (.str [])))⟩,
            ⟨some 9, none, [], .p (.mv (.c (.int .i64 7)))⟩]) (
        .ret)) (
        .seq (
          .region [
            ⟨some 20, none, [], .p (.mv (.t 10))⟩,
            ⟨some 21, none, [], .p (.bin .lss (.t 20) (.c (.int .i64 0)))⟩,
            ⟨some 19, none, [], .p (.mv (.t 21))⟩]) (
        .cond (.t 19) (
          .seq (
            .region [
              ⟨some 8, none, [], .p (.mv (.c (.str [])))⟩,
              ⟨some 9, none, [], .p (.mv (.c (.int .i64 3)))⟩]) (
          .ret)) (
          .seq (
            .region [
              ⟨some 23, none, [], .p (.mv (.t 2))⟩,
              ⟨some 24, none, [], .p (.lenV false (.t 23))⟩,
              ⟨some 25, none, [], .p (.bin .gtr (.t 24) (.c (.int .i64 16384)))⟩,
              ⟨some 26, none, [], .p (.mv (.t 25))⟩,
              ⟨some 27, some (26, false), [], .p (.mv (.t 10))⟩,
              ⟨some 28, some (26, false), [], .p (.bin .gtr (.t 27) (.c (.int .i64 16384)))⟩,
              ⟨some 29, none, [], .p (.pick (.t 26) (.c (.bool true)) (.t 28))⟩,
              ⟨some 22, none, [], .p (.mv (.t 29))⟩]) (
          .cond (.t 22) (
            .seq (
              .region [
                ⟨some 8, none, [], .p (.mv (.c (.str [])))⟩,
                ⟨some 9, none, [], .p (.mv (.c (.int .i64 5)))⟩]) (
            .ret)) (
            .seq (
              .region [
                ⟨some 31, none, [], .p (.mv (.t 3))⟩,
                ⟨some 32, none, [], .p (.mv (.t 10))⟩,
                ⟨some 33, none, [], .p (.slcStr (.t 31) (some (.t 32)) none)⟩,
                ⟨some 34, none, [], .p (.mv (.t 0))⟩,
                ⟨some 35, none, [], .p (.mv (.t 1))⟩,
                ⟨some 36, none, [], .p (.mv (.t 2))⟩,
                ⟨some 37, none, [], .p (.mv (.t 3))⟩,
                ⟨some 38, none, [], .p (.mv (.t 10))⟩,
                ⟨some 39, none, [], .p (.slcStr (.t 37) none (some (.t 38)))⟩,
                ⟨some 40, none, [], .call 32036 4 true (.f 37) [.t 34, .t 35, .t 36, .t 39]⟩,
                ⟨some 41, none, [], .call 32040 4 true (.f 15) [.t 33, .t 40]⟩,
                ⟨some 42, none, [], .p (.un .not (.t 41))⟩,
                ⟨some 30, none, [], .p (.mv (.t 42))⟩]) (
            .cond (.t 30) (
              .seq (
                .region [
                  ⟨some 8, none, [], .p (.mv (.c (.str [])))⟩,
                  ⟨some 9, none, [], .p (.mv (.c (.int .i64 23)))⟩]) (
              .ret)) (
              .skip)))))))))) (
  .seq (
    .region [
      ⟨some 43, none, [], .p (.mv (.t 0))⟩,
      ⟨some 44, none, [], .p (.mv (.t 1))⟩,
      ⟨some 45, none, [], .p (.mv (.t 3))⟩,
      ⟨some 46, none, [], .p (.mv (.t 10))⟩,
      ⟨some 47, none, [], .p (.slcStr (.t 45) none (some (.t 46)))⟩,
      ⟨some 48, none, [], .call 40020 4 true (.f 36) [.t 43, .t 44, .c (u32 1#32), .t 47]⟩,
      ⟨some 49, none, [], .p (.extract (.t 48) 0)⟩,
      ⟨some 50, none, [], .p (.extract (.t 48) 1)⟩,
      ⟨some 8, none, [], .p (.mv (.t 49))⟩,
      ⟨some 9, none, [], .p (.mv (.t 50))⟩]) (
  .ret)))),
  51, [Sum.inl 8, Sum.inl 9]⟩

theorem c25 : cFunc Try.prog quiet Try.f25 [] = some s25 := by kernel_rfl

-- 26 calls [38, 39]
def s26 : SFunc := ⟨
  .seq (
    .region [
      ⟨some 8, none, [], .p (.mv (.c (.str [])))⟩,
      ⟨some 9, none, [], .p (.mv (.c (.int .i64 0)))⟩]) (
  .seq (
    .seq (
      .region [
        ⟨some 14, none, [], .p (.mv (.t 0))⟩,
        ⟨some 15, none, [], .p (.lenV false (.t 14))⟩,
        ⟨some 16, none, [], .p (.bin .neq (.t 15) (.c (.int .i64 32)))⟩,
        ⟨some 17, none, [], .p (.mv (.t 16))⟩,
        ⟨some 18, some (17, false), [], .p (.mv (.t 1))⟩,
        ⟨some 19, some (17, false), [], .p (.lenV false (.t 18))⟩,
        ⟨some 20, some (17, false), [], .p (.bin .neq (.t 19) (.c (.int .i64 12)))⟩,
        ⟨some 21, none, [], .p (.pick (.t 17) (.c (.bool true)) (.t 20))⟩]) (
    .cond (.t 21) (
      .seq (
        .region [
          ⟨some 8, none, [], .p (.mv (.c (.str [])))⟩,
          ⟨some 9, none, [], .p (.mv (.c (.int .i64 7)))⟩]) (
      .ret)) (
      .skip))) (
  .seq (
    .seq (
      .region [
        ⟨some 22, none, [], .p (.mv (.t 3))⟩,
        ⟨some 23, none, [], .p (.lenV false (.t 22))⟩,
        ⟨some 24, none, [], .p (.bin .lss (.t 23) (.c (.int .i64 16)))⟩]) (
    .cond (.t 24) (
      .seq (
        .region [
          ⟨some 8, none, [], .p (.mv (.c (.str [])))⟩,
          ⟨some 9, none, [], .p (.mv (.c (.int .i64 3)))⟩]) (
      .ret)) (
      .skip))) (
  .seq (
    .region [
      ⟨some 25, none, [], .p (.mv (.t 3))⟩,
      ⟨some 26, none, [], .p (.lenV false (.t 25))⟩,
      ⟨some 27, none, [], .p (.bin .sub (.t 26) (.c (.int .i64 16)))⟩,
      ⟨some 10, none, [], .p (.mv (.t 27))⟩]) (
  .seq (
    .seq (
      .region [
        ⟨some 28, none, [], .p (.mv (.t 2))⟩,
        ⟨some 29, none, [], .p (.lenV false (.t 28))⟩,
        ⟨some 30, none, [], .p (.bin .gtr (.t 29) (.c (.int .i64 16384)))⟩,
        ⟨some 31, none, [], .p (.mv (.t 30))⟩,
        ⟨some 32, some (31, false), [], .p (.mv (.t 10))⟩,
        ⟨some 33, some (31, false), [], .p (.bin .gtr (.t 32) (.c (.int .i64 16384)))⟩,
        ⟨some 34, none, [], .p (.pick (.t 31) (.c (.bool true)) (.t 33))⟩]) (
    .cond (.t 34) (
      .seq (
        .region [
          ⟨some 8, none, [], .p (.mv (.c (.str [])))⟩,
          ⟨some 9, none, [], .p (.mv (.c (.int .i64 5)))⟩]) (
      .ret)) (
      .skip))) (
  .seq (
    .region [
      ⟨some 35, none, [], .p (.mv (.t 0))⟩,
      ⟨some 36, none, [], .p (.mv (.t 1))⟩,
      ⟨some 37, none, [], .p (.mv (.t 2))⟩,
      ⟨some 38, none, [], .p (.mv (.t 3))⟩,
      ⟨some 39, none, [], .p (.mv (.t 10))⟩,
      ⟨some 40, none, [], .p (.slcStr (.t 38) none (some (.t 39)))⟩,
      ⟨some 41, none, [], .call 32024 4 true (.f 39) [.t 35, .t 36, .t 37, .t 40]⟩,
      ⟨some 11, none, [], .p (.mv (.t 41))⟩]) (
  .seq (
    .seq (
      .region [
        ⟨some 42, none, [], .p (.mv (.t 11))⟩,
        ⟨some 43, none, [], .p (.mv (.t 3))⟩,
        ⟨some 44, none, [], .p (.mv (.t 10))⟩,
        ⟨some 45, none, [], .p (.slcStr (.t 43) (some (.t 44)) none)⟩,
        ⟨some 46, none, [], .p (.bin .neq (.t 42) (.t 45))⟩]) (
    .cond (.t 46) (
      .seq (
        .region [
          ⟨some 8, none, [], .p (.mv (.c (.str [])))⟩,
          ⟨some 9, none, [], .p (.mv (.c (.int .i64 23)))⟩]) (
      .ret)) (
      .skip))) (
  .seq (
    .region [
      ⟨some 48, none, [], .p (.mv (.t 0))⟩,
      ⟨some 49, none, [], .p (.mv (.t 1))⟩,
      ⟨some 50, none, [], .p (.mv (.t 3))⟩,
      ⟨some 51, none, [], .p (.mv (.t 10))⟩,
      ⟨some 52, none, [], .p (.slcStr (.t 50) none (some (.t 51)))⟩,
      ⟨some 53, none, [], .call 44020 4 true (.f 38) [.t 48, .t 49, .c (u32 1#32), .t 52]⟩,
      ⟨some 47, none, [], .p (.mv (.t 53))⟩,
      ⟨some 54, none, [], .p (.extract (.t 47) 0)⟩,
      ⟨some 55, none, [], .p (.extract (.t 47) 1)⟩,
      ⟨some 12, none, [], .p (.mv (.t 54))⟩,
      ⟨some 13, none, [], .p (.mv (.t 55))⟩]) (
  .seq (
    .region [
      ⟨some 56, none, [], .p (.mv (.t 12))⟩,
      ⟨some 8, none, [], .p (.mv (.t 56))⟩,
      ⟨some 9, none, [], .p (.mv (.c (.int .i64 0)))⟩]) (
  .ret))))))))),
  57, [Sum.inl 8, Sum.inl 9]⟩

theorem c26 : cFunc Try.prog quiet Try.f26 [] = some s26 := by kernel_rfl

-- 27 calls []
def s27 : SFunc := ⟨
  .seq (
    .region [
      ⟨some 1, none, [], .a 0 (.box (.t 0))⟩,
      ⟨some 2, none, [], .p (.mv (.c (.str [])))⟩,
      ⟨some 3, none, [], .p (.mv (.c (.str [])))⟩]) (
  .seq (
    .region [
      ⟨some 4, none, [], .p (.faddr 0 (.t 1))⟩,
      ⟨some 5, none, [], .p (.slcA 32 1 (.t 4) none none)⟩,
      ⟨some 6, none, [], .r (.toStr (.t 5))⟩,
      ⟨some 7, none, [], .p (.faddr 32 (.t 1))⟩,
      ⟨some 8, none, [], .p (.slcA 12 1 (.t 7) none none)⟩,
      ⟨some 9, none, [], .r (.toStr (.t 8))⟩,
      ⟨some 2, none, [], .p (.mv (.t 6))⟩,
      ⟨some 3, none, [], .p (.mv (.t 9))⟩]) (
  .ret)),
  10, [Sum.inl 2, Sum.inl 3]⟩

theorem c27 : cFunc Try.prog quiet Try.f27 [] = some s27 := by kernel_rfl

-- 28 calls []
abbrev k28_0 : List Nat := [0, 1, 5, 14, 15]
abbrev a28_0 : List Nat := [5]
abbrev e28_0 (v0 v1 v5 v14 v15 : AV) : Env := [v0, v1, .dead, .dead, .dead, v5, .dead, .dead, .dead, .dead, .dead, .dead, .dead, .dead, v14, v15, .dead, .dead, .dead, .dead, .dead, .dead, .dead, .dead, .dead, .dead, .dead, .dead, .dead, .dead, .dead]
abbrev x28_0 (v5 : AV) : Env := [.dead, .dead, .dead, .dead, .dead, v5, .dead, .dead, .dead, .dead, .dead, .dead, .dead, .dead, .dead, .dead, .dead, .dead, .dead, .dead, .dead, .dead, .dead, .dead, .dead, .dead, .dead, .dead, .dead, .dead, .dead]
def s28_b0 : SCode :=
  .seq (
    .region [
      ⟨some 16, none, [], .p (.bin .lss (.t 15) (.t 14))⟩]) (
  .seq (
    .cond (.t 16) (
      .skip) (
      .exit 0)) (
  .seq (
    .block 1 (
      .seq (
        .region [
          ⟨some 17, none, [], .p (.mv (.t 15))⟩,
          ⟨some 6, none, [], .p (.mv (.t 17))⟩]) (
      .region [
        ⟨some 18, none, [], .p (.mv (.t 5))⟩,
        ⟨some 19, none, [], .p (.mv (.t 6))⟩,
        ⟨some 20, none, [], .p (.mv (.t 0))⟩,
        ⟨some 21, none, [], .p (.mv (.t 6))⟩,
        ⟨some 22, none, [], .p (.idxStr (.t 20) (.t 21))⟩,
        ⟨some 23, none, [], .p (.mv (.t 1))⟩,
        ⟨some 24, none, [], .p (.mv (.t 6))⟩,
        ⟨some 25, none, [], .p (.idxStr (.t 23) (.t 24))⟩,
        ⟨some 26, none, [], .p (.bin .xor (.t 22) (.t 25))⟩,
        ⟨some 27, none, [], .p (.iaddrS 1 (.t 18) (.t 19))⟩,
        ⟨none, none, [], .w (.store1 (.t 27) (.t 26))⟩]))) (
  .region [
    ⟨some 28, none, [], .p (.bin .add (.t 15) (.c (.int .i64 1)))⟩,
    ⟨some 15, none, [], .p (.mv (.t 28))⟩])))

def s28 : SFunc := ⟨
  .seq (
    .region [
      ⟨some 4, none, [], .p (.mv (.c (.str [])))⟩]) (
  .seq (
    .region [
      ⟨some 7, none, [], .p (.mv (.t 0))⟩,
      ⟨some 8, none, [], .p (.lenV false (.t 7))⟩,
      ⟨some 9, none, [], .p (.mv (.t 1))⟩,
      ⟨some 10, none, [], .p (.lenV false (.t 9))⟩,
      ⟨some 11, none, [], .p (.minmax false (.t 8) (.t 10))⟩,
      ⟨some 12, none, [], .a 4020 (.mkSlice 1 1 [byteAV 0] (.t 11) (.t 11))⟩,
      ⟨some 5, none, [], .p (.mv (.t 12))⟩]) (
  .seq (
    .seq (
      .region [
        ⟨some 13, none, [], .p (.mv (.t 5))⟩,
        ⟨some 14, none, [], .p (.lenV true (.t 13))⟩,
        ⟨some 15, none, [], .p (.mv (.c (.int .i64 0)))⟩]) (
    .block 0 (
      .loop k28_0 a28_0 s28_b0))) (
  .seq (
    .region [
      ⟨some 29, none, [], .p (.mv (.t 5))⟩,
      ⟨some 30, none, [], .r (.toStr (.t 29))⟩,
      ⟨some 4, none, [], .p (.mv (.t 30))⟩]) (
  .ret)))),
  31, [Sum.inl 4]⟩

theorem c28 : cFunc Try.prog quiet Try.f28 [[0, 1, 5, 14, 15], [5]] = some s28 := by kernel_rfl

-- 29 calls [40]
abbrev k29_0 : List Nat := [1, 4, 5, 7, 14]
abbrev a29_0 : List Nat := [1, 4, 7]
abbrev e29_0 (v1 v4 v5 v7 v14 : AV) : Env := [.dead, v1, .dead, .dead, v4, v5, .dead, v7, .dead, .dead, .dead, .dead, .dead, .dead, v14, .dead, .dead, .dead, .dead, .dead, .dead, .dead, .dead, .dead, .dead, .dead, .dead, .dead, .dead, .dead, .dead, .dead, .dead, .dead, .dead, .dead, .dead, .dead, .dead, .dead, .dead, .dead, .dead, .dead, .dead, .dead, .dead, .dead, .dead, .dead, .dead, .dead, .dead, .dead, .dead, .dead, .dead, .dead, .dead]
abbrev x29_0 (v1 v4 v7 : AV) : Env := [.dead, v1, .dead, .dead, v4, .dead, .dead, v7, .dead, .dead, .dead, .dead, .dead, .dead, .dead, .dead, .dead, .dead, .dead, .dead, .dead, .dead, .dead, .dead, .dead, .dead, .dead, .dead, .dead, .dead, .dead, .dead, .dead, .dead, .dead, .dead, .dead, .dead, .dead, .dead, .dead, .dead, .dead, .dead, .dead, .dead, .dead, .dead, .dead, .dead, .dead, .dead, .dead, .dead, .dead, .dead, .dead, .dead, .dead]
def s29_b0 : SCode :=
  .seq (
    .region [
      ⟨some 15, none, [], .p (.bin .lss (.t 14) (.c (.int .i64 4)))⟩]) (
  .seq (
    .cond (.t 15) (
      .skip) (
      .exit 0)) (
  .seq (
    .block 1 (
      .seq (
        .region [
          ⟨some 16, none, [], .p (.mv (.t 14))⟩,
          ⟨some 8, none, [], .p (.mv (.t 16))⟩]) (
      .region [
        ⟨some 17, none, [], .p (.mv (.t 8))⟩,
        ⟨some 18, none, [], .p (.mv (.t 5))⟩,
        ⟨some 19, none, [], .p (.mv (.t 8))⟩,
        ⟨some 20, none, [], .p (.iaddrS 1 (.t 18) (.t 19))⟩,
        ⟨some 21, none, [], .r (.load1 (.t 20))⟩,
        ⟨some 22, none, [], .p (.conv .u64 (.t 21))⟩,
        ⟨some 23, none, [], .p (.iaddrA 4 1 (.t 7) (.t 17))⟩,
        ⟨none, none, [], .w (.store1 (.t 23) (.t 22))⟩]))) (
  .region [
    ⟨some 24, none, [], .p (.bin .add (.t 14) (.c (.int .i64 1)))⟩,
    ⟨some 14, none, [], .p (.mv (.t 24))⟩])))

def s29 : SFunc := ⟨
  .seq (
    .region [
      ⟨some 4, none, [], .a 0 (.alloc [u64 0#64, u64 0#64, u64 0#64, u64 0#64, u64 0#64])⟩]) (
  .seq (
    .region [
      ⟨some 10, none, [], .p (.mv (.t 0))⟩,
      ⟨some 11, none, [], .call 4004 4 true (.f 40) [.t 10]⟩,
      ⟨some 9, none, [], .p (.mv (.t 11))⟩,
      ⟨some 12, none, [], .p (.extract (.t 9) 0)⟩,
      ⟨some 13, none, [], .p (.extract (.t 9) 1)⟩,
      ⟨some 5, none, [], .p (.mv (.t 12))⟩,
      ⟨some 6, none, [], .p (.mv (.t 13))⟩]) (
  .seq (
    .region [
      ⟨some 7, none, [], .a 8000 (.alloc [u64 0#64, u64 0#64, u64 0#64, u64 0#64])⟩]) (
  .seq (
    .seq (
      .region [
        ⟨some 14, none, [], .p (.mv (.c (.int .i64 0)))⟩]) (
    .block 0 (
      .loop k29_0 a29_0 s29_b0))) (
  .seq (
    .region [
      ⟨some 25, none, [], .p (.iaddrA 4 1 (.t 7) (.c (.int .i64 0)))⟩,
      ⟨some 26, none, [], .r (.load1 (.t 25))⟩,
      ⟨some 27, none, [], .p (.bin .and (.t 26) (.c (u64 67108863#64)))⟩,
      ⟨some 28, none, [], .p (.iaddrA 4 1 (.t 7) (.c (.int .i64 0)))⟩,
      ⟨some 29, none, [], .r (.load1 (.t 28))⟩,
      ⟨some 30, none, [], .p (.bin .shr (.t 29) (.c (u64 26#64)))⟩,
      ⟨some 31, none, [], .p (.iaddrA 4 1 (.t 7) (.c (.int .i64 1)))⟩,
      ⟨some 32, none, [], .r (.load1 (.t 31))⟩,
      ⟨some 33, none, [], .p (.bin .shl (.t 32) (.c (u64 6#64)))⟩,
      ⟨some 34, none, [], .p (.bin .or (.t 30) (.t 33))⟩,
      ⟨some 35, none, [], .p (.bin .and (.t 34) (.c (u64 67108863#64)))⟩,
      ⟨some 36, none, [], .p (.iaddrA 4 1 (.t 7) (.c (.int .i64 1)))⟩,
      ⟨some 37, none, [], .r (.load1 (.t 36))⟩,
      ⟨some 38, none, [], .p (.bin .shr (.t 37) (.c (u64 20#64)))⟩,
      ⟨some 39, none, [], .p (.iaddrA 4 1 (.t 7) (.c (.int .i64 2)))⟩,
      ⟨some 40, none, [], .r (.load1 (.t 39))⟩,
      ⟨some 41, none, [], .p (.bin .shl (.t 40) (.c (u64 12#64)))⟩,
      ⟨some 42, none, [], .p (.bin .or (.t 38) (.t 41))⟩,
      ⟨some 43, none, [], .p (.bin .and (.t 42) (.c (u64 67108863#64)))⟩,
      ⟨some 44, none, [], .p (.iaddrA 4 1 (.t 7) (.c (.int .i64 2)))⟩,
      ⟨some 45, none, [], .r (.load1 (.t 44))⟩,
      ⟨some 46, none, [], .p (.bin .shr (.t 45) (.c (u64 14#64)))⟩,
      ⟨some 47, none, [], .p (.iaddrA 4 1 (.t 7) (.c (.int .i64 3)))⟩,
      ⟨some 48, none, [], .r (.load1 (.t 47))⟩,
      ⟨some 49, none, [], .p (.bin .shl (.t 48) (.c (u64 18#64)))⟩,
      ⟨some 50, none, [], .p (.bin .or (.t 46) (.t 49))⟩,
      ⟨some 51, none, [], .p (.bin .and (.t 50) (.c (u64 67108863#64)))⟩,
      ⟨some 52, none, [], .p (.iaddrA 4 1 (.t 7) (.c (.int .i64 3)))⟩,
      ⟨some 53, none, [], .r (.load1 (.t 52))⟩,
      ⟨some 54, none, [], .p (.bin .shr (.t 53) (.c (u64 8#64)))⟩,
      ⟨some 55, none, [], .p (.mv (.t 1))⟩,
      ⟨some 56, none, [], .p (.bin .shl (.t 55) (.c (u64 24#64)))⟩,
      ⟨some 57, none, [], .p (.bin .or (.t 54) (.t 56))⟩,
      ⟨some 58, none, [], .p (.build [u64 0#64, u64 0#64, u64 0#64, u64 0#64, u64 0#64] [(0, 1, .t 27), (1, 1, .t 35), (2, 1, .t 43), (3, 1, .t 51), (4, 1, .t 57)])⟩,
      ⟨none, none, [], .w (.storeN 5 (.t 4) (.t 58))⟩]) (
  .ret))))),
  59, [Sum.inr (4, 5, true)]⟩

theorem c29 : cFunc Try.prog quiet Try.f29 [[1, 4, 5, 7, 14], [1, 4, 7]] = some s29 := by kernel_rfl

-- 30 calls [41]
abbrev k30_1 : List Nat := [0, 3, 4, 5, 6, 9, 10, 16, 17]
abbrev a30_1 : List Nat := [0, 3, 4, 9, 10]
abbrev e30_1 (v0 v3 v4 v5 v6 v9 v10 v16 v17 : AV) : Env := [v0, .dead, .dead, v3, v4, v5, v6, .dead, .dead, v9, v10, .dead, .dead, .dead, .dead, .dead, v16, v17, .dead, .dead, .dead, .dead, .dead, .dead, .dead, .dead, .dead, .dead, .dead, .dead, .dead, .dead, .dead, .dead, .dead, .dead, .dead, .dead, .dead, .dead, .dead, .dead, .dead, .dead, .dead, .dead, .dead, .dead, .dead, .dead, .dead, .dead, .dead]
abbrev x30_1 (v0 v3 v4 v9 v10 : AV) : Env := [v0, .dead, .dead, v3, v4, .dead, .dead, .dead, .dead, v9, v10, .dead, .dead, .dead, .dead, .dead, .dead, .dead, .dead, .dead, .dead, .dead, .dead, .dead, .dead, .dead, .dead, .dead, .dead, .dead, .dead, .dead, .dead, .dead, .dead, .dead, .dead, .dead, .dead, .dead, .dead, .dead, .dead, .dead, .dead, .dead, .dead, .dead, .dead, .dead, .dead, .dead, .dead]
def s30_b1 : SCode :=
  .seq (
    .region [
      ⟨some 18, none, [], .p (.bin .lss (.t 17) (.c (.int .i64 5)))⟩]) (
  .seq (
    .cond (.t 18) (
      .skip) (
      .exit 2)) (
  .seq (
    .block 3 (
      .seq (
        .region [
          ⟨some 19, none, [], .p (.mv (.t 17))⟩,
          ⟨some 20, none, [], .p (.idxA 5 (.t 16) (.t 17))⟩,
          ⟨some 7, none, [], .p (.mv (.t 19))⟩,
          ⟨some 8, none, [], .p (.mv (.t 20))⟩]) (
      .seq (
        .region [
          ⟨some 21, none, [], .p (.mv (.t 5))⟩,
          ⟨some 22, none, [], .p (.mv (.t 7))⟩,
          ⟨some 23, none, [], .p (.bin .add (.t 21) (.t 22))⟩,
          ⟨some 24, none, [], .p (.bin .lss (.t 23) (.c (.int .i64 5)))⟩]) (
      .cond (.t 24) (
        .region [
          ⟨some 25, none, [], .p (.mv (.t 5))⟩,
          ⟨some 26, none, [], .p (.mv (.t 7))⟩,
          ⟨some 27, none, [], .p (.bin .add (.t 25) (.t 26))⟩,
          ⟨some 28, none, [], .p (.iaddrA 5 1 (.t 4) (.t 27))⟩,
          ⟨some 29, none, [], .r (.load1 (.t 28))⟩,
          ⟨some 30, none, [], .p (.mv (.t 6))⟩,
          ⟨some 31, none, [], .p (.mv (.t 8))⟩,
          ⟨some 32, none, [], .p (.bin .mul (.t 30) (.t 31))⟩,
          ⟨some 33, none, [], .p (.bin .add (.t 29) (.t 32))⟩,
          ⟨some 34, none, [], .p (.iaddrA 5 1 (.t 4) (.t 27))⟩,
          ⟨none, none, [], .w (.store1 (.t 34) (.t 33))⟩]) (
        .region [
          ⟨some 35, none, [], .p (.mv (.t 5))⟩,
          ⟨some 36, none, [], .p (.mv (.t 7))⟩,
          ⟨some 37, none, [], .p (.bin .add (.t 35) (.t 36))⟩,
          ⟨some 38, none, [], .p (.bin .sub (.t 37) (.c (.int .i64 5)))⟩,
          ⟨some 39, none, [], .p (.iaddrA 5 1 (.t 4) (.t 38))⟩,
          ⟨some 40, none, [], .r (.load1 (.t 39))⟩,
          ⟨some 41, none, [], .p (.mv (.t 6))⟩,
          ⟨some 42, none, [], .p (.mv (.t 8))⟩,
          ⟨some 43, none, [], .p (.bin .mul (.t 41) (.t 42))⟩,
          ⟨some 44, none, [], .p (.bin .mul (.t 43) (.c (u64 5#64)))⟩,
          ⟨some 45, none, [], .p (.bin .add (.t 40) (.t 44))⟩,
          ⟨some 46, none, [], .p (.iaddrA 5 1 (.t 4) (.t 38))⟩,
          ⟨none, none, [], .w (.store1 (.t 46) (.t 45))⟩]))))) (
  .region [
    ⟨some 47, none, [], .p (.bin .add (.t 17) (.c (.int .i64 1)))⟩,
    ⟨some 17, none, [], .p (.mv (.t 47))⟩])))

abbrev k30_0 : List Nat := [0, 3, 4, 9, 10]
abbrev a30_0 : List Nat := [0, 4]
abbrev e30_0 (v0 v3 v4 v9 v10 : AV) : Env := [v0, .dead, .dead, v3, v4, .dead, .dead, .dead, .dead, v9, v10, .dead, .dead, .dead, .dead, .dead, .dead, .dead, .dead, .dead, .dead, .dead, .dead, .dead, .dead, .dead, .dead, .dead, .dead, .dead, .dead, .dead, .dead, .dead, .dead, .dead, .dead, .dead, .dead, .dead, .dead, .dead, .dead, .dead, .dead, .dead, .dead, .dead, .dead, .dead, .dead, .dead, .dead]
abbrev x30_0 (v0 v4 : AV) : Env := [v0, .dead, .dead, .dead, v4, .dead, .dead, .dead, .dead, .dead, .dead, .dead, .dead, .dead, .dead, .dead, .dead, .dead, .dead, .dead, .dead, .dead, .dead, .dead, .dead, .dead, .dead, .dead, .dead, .dead, .dead, .dead, .dead, .dead, .dead, .dead, .dead, .dead, .dead, .dead, .dead, .dead, .dead, .dead, .dead, .dead, .dead, .dead, .dead, .dead, .dead, .dead, .dead]
def s30_b0 : SCode :=
  .seq (
    .region [
      ⟨some 11, none, [], .p (.bin .lss (.t 10) (.c (.int .i64 5)))⟩]) (
  .seq (
    .cond (.t 11) (
      .skip) (
      .exit 0)) (
  .seq (
    .block 1 (
      .seq (
        .region [
          ⟨some 12, none, [], .p (.mv (.t 10))⟩,
          ⟨some 13, none, [], .p (.nilChk (.t 9))⟩,
          ⟨some 14, none, [], .p (.iaddrA 5 1 (.t 13) (.t 10))⟩,
          ⟨some 15, none, [], .r (.load1 (.t 14))⟩,
          ⟨some 5, none, [], .p (.mv (.t 12))⟩,
          ⟨some 6, none, [], .p (.mv (.t 15))⟩]) (
      .seq (
        .region [
          ⟨some 16, none, [], .r (.loadN 5 (.t 3))⟩,
          ⟨some 17, none, [], .p (.mv (.c (.int .i64 0)))⟩]) (
      .block 2 (
        .loop k30_1 a30_1 s30_b1))))) (
  .region [
    ⟨some 48, none, [], .p (.bin .add (.t 10) (.c (.int .i64 1)))⟩,
    ⟨some 10, none, [], .p (.mv (.t 48))⟩])))

def s30 : SFunc := ⟨
  .seq (
    .region [
      ⟨some 3, none, [], .a 0 (.box (.t 1))⟩]) (
  .seq (
    .region [
      ⟨some 4, none, [], .a 4000 (.alloc [u64 0#64, u64 0#64, u64 0#64, u64 0#64, u64 0#64])⟩]) (
  .seq (
    .seq (
      .region [
        ⟨some 9, none, [], .p (.mv (.t 0))⟩,
        ⟨some 10, none, [], .p (.mv (.c (.int .i64 0)))⟩]) (
    .block 0 (
      .loop k30_0 a30_0 s30_b0))) (
  .seq (
    .region [
      ⟨some 49, none, [], .call 52000 4 false (.f 41) [.t 4]⟩]) (
  .region [
    ⟨some 50, none, [], .p (.mv (.t 0))⟩,
    ⟨some 51, none, [], .r (.loadN 5 (.t 4))⟩,
    ⟨some 52, none, [], .p (.nilChk (.t 50))⟩,
    ⟨none, none, [], .w (.storeN 5 (.t 52) (.t 51))⟩])))),
  53, []⟩

theorem c30 : cFunc Try.prog quiet Try.f30 [[0, 3, 4, 9, 10], [0, 4], [0, 3, 4, 5, 6, 9, 10, 16, 17], [0, 3, 4, 9, 10]] = some s30 := by kernel_rfl

-- 31 calls [41]
abbrev k31_0 : List Nat := [0, 2, 15]
abbrev a31_0 : List Nat := [0, 2]
abbrev e31_0 (v0 v2 v15 : AV) : Env := [v0, .dead, v2, .dead, .dead, .dead, .dead, .dead, .dead, .dead, .dead, .dead, .dead, .dead, .dead, v15, .dead, .dead, .dead, .dead, .dead, .dead, .dead, .dead, .dead, .dead, .dead, .dead, .dead, .dead, .dead, .dead, .dead, .dead, .dead, .dead, .dead, .dead, .dead, .dead, .dead, .dead, .dead, .dead, .dead]
abbrev x31_0 (v0 v2 : AV) : Env := [v0, .dead, v2, .dead, .dead, .dead, .dead, .dead, .dead, .dead, .dead, .dead, .dead, .dead, .dead, .dead, .dead, .dead, .dead, .dead, .dead, .dead, .dead, .dead, .dead, .dead, .dead, .dead, .dead, .dead, .dead, .dead, .dead, .dead, .dead, .dead, .dead, .dead, .dead, .dead, .dead, .dead, .dead, .dead, .dead]
def s31_b0 : SCode :=
  .seq (
    .region [
      ⟨some 16, none, [], .p (.bin .lss (.t 15) (.c (.int .i64 4)))⟩]) (
  .seq (
    .cond (.t 16) (
      .skip) (
      .exit 0)) (
  .seq (
    .block 1 (
      .seq (
        .region [
          ⟨some 17, none, [], .p (.mv (.t 15))⟩,
          ⟨some 3, none, [], .p (.mv (.t 17))⟩]) (
      .seq (
        .region [
          ⟨some 18, none, [], .p (.mv (.t 3))⟩,
          ⟨some 19, none, [], .p (.bin .add (.t 18) (.c (.int .i64 1)))⟩,
          ⟨some 20, none, [], .p (.iaddrA 5 1 (.t 2) (.t 19))⟩,
          ⟨some 21, none, [], .r (.load1 (.t 20))⟩,
          ⟨some 22, none, [], .p (.mv (.t 3))⟩,
          ⟨some 23, none, [], .p (.iaddrA 5 1 (.t 2) (.t 22))⟩,
          ⟨some 24, none, [], .r (.load1 (.t 23))⟩,
          ⟨some 25, none, [], .p (.bin .shr (.t 24) (.c (u64 26#64)))⟩,
          ⟨some 26, none, [], .p (.bin .add (.t 21) (.t 25))⟩,
          ⟨some 27, none, [], .p (.iaddrA 5 1 (.t 2) (.t 19))⟩,
          ⟨none, none, [], .w (.store1 (.t 27) (.t 26))⟩]) (
      .region [
        ⟨some 28, none, [], .p (.mv (.t 3))⟩,
        ⟨some 29, none, [], .p (.iaddrA 5 1 (.t 2) (.t 28))⟩,
        ⟨some 30, none, [], .r (.load1 (.t 29))⟩,
        ⟨some 31, none, [], .p (.bin .and (.t 30) (.c (u64 67108863#64)))⟩,
        ⟨some 32, none, [], .p (.iaddrA 5 1 (.t 2) (.t 28))⟩,
        ⟨none, none, [], .w (.store1 (.t 32) (.t 31))⟩])))) (
  .region [
    ⟨some 33, none, [], .p (.bin .add (.t 15) (.c (.int .i64 1)))⟩,
    ⟨some 15, none, [], .p (.mv (.t 33))⟩])))

def s31 : SFunc := ⟨
  .seq (
    .region [
      ⟨some 4, none, [], .p (.mv (.t 0))⟩,
      ⟨some 5, none, [], .call 4 4 false (.f 41) [.t 4]⟩]) (
  .seq (
    .region [
      ⟨some 6, none, [], .p (.mv (.t 0))⟩,
      ⟨some 7, none, [], .call 4004 4 false (.f 41) [.t 6]⟩]) (
  .seq (
    .region [
      ⟨some 8, none, [], .p (.mv (.t 0))⟩,
      ⟨some 9, none, [], .p (.nilChk (.t 8))⟩,
      ⟨some 10, none, [], .r (.loadN 5 (.t 9))⟩,
      ⟨some 2, none, [], .a 8012 (.alloc [u64 0#64, u64 0#64, u64 0#64, u64 0#64, u64 0#64])⟩,
      ⟨none, none, [], .w (.storeN 5 (.t 2) (.t 10))⟩]) (
  .seq (
    .region [
      ⟨some 11, none, [], .p (.iaddrA 5 1 (.t 2) (.c (.int .i64 0)))⟩,
      ⟨some 12, none, [], .r (.load1 (.t 11))⟩,
      ⟨some 13, none, [], .p (.bin .add (.t 12) (.c (u64 5#64)))⟩,
      ⟨some 14, none, [], .p (.iaddrA 5 1 (.t 2) (.c (.int .i64 0)))⟩,
      ⟨none, none, [], .w (.store1 (.t 14) (.t 13))⟩]) (
  .seq (
    .seq (
      .region [
        ⟨some 15, none, [], .p (.mv (.c (.int .i64 0)))⟩]) (
    .block 0 (
      .loop k31_0 a31_0 s31_b0))) (
  .seq (
    .region [
      ⟨some 34, none, [], .p (.iaddrA 5 1 (.t 2) (.c (.int .i64 4)))⟩,
      ⟨some 35, none, [], .r (.load1 (.t 34))⟩,
      ⟨some 36, none, [], .p (.bin .shr (.t 35) (.c (u64 26#64)))⟩,
      ⟨some 37, none, [], .p (.bin .neq (.t 36) (.c (u64 0#64)))⟩]) (
  .cond (.t 37) (
    .seq (
      .region [
        ⟨some 38, none, [], .p (.iaddrA 5 1 (.t 2) (.c (.int .i64 4)))⟩,
        ⟨some 39, none, [], .r (.load1 (.t 38))⟩,
        ⟨some 40, none, [], .p (.bin .and (.t 39) (.c (u64 67108863#64)))⟩,
        ⟨some 41, none, [], .p (.iaddrA 5 1 (.t 2) (.c (.int .i64 4)))⟩,
        ⟨none, none, [], .w (.store1 (.t 41) (.t 40))⟩]) (
    .region [
      ⟨some 42, none, [], .p (.mv (.t 0))⟩,
      ⟨some 43, none, [], .r (.loadN 5 (.t 2))⟩,
      ⟨some 44, none, [], .p (.nilChk (.t 42))⟩,
      ⟨none, none, [], .w (.storeN 5 (.t 44) (.t 43))⟩])) (
    .skip))))))),
  45, []⟩

theorem c31 : cFunc Try.prog quiet Try.f31 [[0, 2, 15], [0, 2]] = some s31 := by kernel_rfl

-- 32 calls [40, 42]
abbrev k32_0 : List Nat := [5, 7, 8, 9, 45]
abbrev a32_0 : List Nat := [8]
abbrev e32_0 (v5 v7 v8 v9 v45 : AV) : Env := [.dead, .dead, .dead, .dead, .dead, v5, .dead, v7, v8, v9, .dead, .dead, .dead, .dead, .dead, .dead, .dead, .dead, .dead, .dead, .dead, .dead, .dead, .dead, .dead, .dead, .dead, .dead, .dead, .dead, .dead, .dead, .dead, .dead, .dead, .dead, .dead, .dead, .dead, .dead, .dead, .dead, .dead, .dead, .dead, v45, .dead, .dead, .dead, .dead, .dead, .dead, .dead, .dead, .dead, .dead, .dead, .dead, .dead, .dead, .dead, .dead, .dead, .dead, .dead, .dead, .dead, .dead, .dead, .dead]
abbrev x32_0 (v8 : AV) : Env := [.dead, .dead, .dead, .dead, .dead, .dead, .dead, .dead, v8, .dead, .dead, .dead, .dead, .dead, .dead, .dead, .dead, .dead, .dead, .dead, .dead, .dead, .dead, .dead, .dead, .dead, .dead, .dead, .dead, .dead, .dead, .dead, .dead, .dead, .dead, .dead, .dead, .dead, .dead, .dead, .dead, .dead, .dead, .dead, .dead, .dead, .dead, .dead, .dead, .dead, .dead, .dead, .dead, .dead, .dead, .dead, .dead, .dead, .dead, .dead, .dead, .dead, .dead, .dead, .dead, .dead, .dead, .dead, .dead, .dead]
def s32_b0 : SCode :=
  .seq (
    .region [
      ⟨some 46, none, [], .p (.bin .lss (.t 45) (.c (.int .i64 4)))⟩]) (
  .seq (
    .cond (.t 46) (
      .skip) (
      .exit 0)) (
  .seq (
    .block 1 (
      .seq (
        .region [
          ⟨some 47, none, [], .p (.mv (.t 45))⟩,
          ⟨some 10, none, [], .p (.mv (.t 47))⟩]) (
      .seq (
        .region [
          ⟨some 48, none, [], .p (.mv (.t 9))⟩,
          ⟨some 49, none, [], .p (.mv (.t 10))⟩,
          ⟨some 50, none, [], .p (.iaddrA 4 1 (.t 7) (.t 49))⟩,
          ⟨some 51, none, [], .r (.load1 (.t 50))⟩,
          ⟨some 52, none, [], .p (.bin .and (.t 51) (.c (u64 4294967295#64)))⟩,
          ⟨some 53, none, [], .p (.mv (.t 5))⟩,
          ⟨some 54, none, [], .p (.mv (.t 10))⟩,
          ⟨some 55, none, [], .p (.iaddrS 1 (.t 53) (.t 54))⟩,
          ⟨some 56, none, [], .r (.load1 (.t 55))⟩,
          ⟨some 57, none, [], .p (.conv .u64 (.t 56))⟩,
          ⟨some 58, none, [], .p (.bin .add (.t 52) (.t 57))⟩,
          ⟨some 59, none, [], .p (.bin .add (.t 48) (.t 58))⟩,
          ⟨some 9, none, [], .p (.mv (.t 59))⟩]) (
      .seq (
        .region [
          ⟨some 60, none, [], .p (.mv (.t 8))⟩,
          ⟨some 61, none, [], .p (.mv (.t 10))⟩,
          ⟨some 62, none, [], .p (.mv (.t 9))⟩,
          ⟨some 63, none, [], .p (.conv .u32 (.t 62))⟩,
          ⟨some 64, none, [], .p (.iaddrS 1 (.t 60) (.t 61))⟩,
          ⟨none, none, [], .w (.store1 (.t 64) (.t 63))⟩]) (
      .region [
        ⟨some 65, none, [], .p (.mv (.t 9))⟩,
        ⟨some 66, none, [], .p (.bin .shr (.t 65) (.c (u64 32#64)))⟩,
        ⟨some 9, none, [], .p (.mv (.t 66))⟩]))))) (
  .region [
    ⟨some 67, none, [], .p (.bin .add (.t 45) (.c (.int .i64 1)))⟩,
    ⟨some 45, none, [], .p (.mv (.t 67))⟩])))

def s32 : SFunc := ⟨
  .seq (
    .region [
      ⟨some 2, none, [], .a 0 (.box (.t 0))⟩,
      ⟨some 4, none, [], .p (.mv (.c (.str [])))⟩]) (
  .seq (
    .region [
      ⟨some 12, none, [], .p (.mv (.t 1))⟩,
      ⟨some 13, none, [], .call 4004 4 true (.f 40) [.t 12]⟩,
      ⟨some 11, none, [], .p (.mv (.t 13))⟩,
      ⟨some 14, none, [], .p (.extract (.t 11) 0)⟩,
      ⟨some 15, none, [], .p (.extract (.t 11) 1)⟩,
      ⟨some 5, none, [], .p (.mv (.t 14))⟩,
      ⟨some 6, none, [], .p (.mv (.t 15))⟩]) (
  .seq (
    .region [
      ⟨some 16, none, [], .p (.iaddrA 5 1 (.t 2) (.c (.int .i64 0)))⟩,
      ⟨some 17, none, [], .r (.load1 (.t 16))⟩,
      ⟨some 18, none, [], .p (.iaddrA 5 1 (.t 2) (.c (.int .i64 1)))⟩,
      ⟨some 19, none, [], .r (.load1 (.t 18))⟩,
      ⟨some 20, none, [], .p (.bin .shl (.t 19) (.c (u64 26#64)))⟩,
      ⟨some 21, none, [], .p (.bin .or (.t 17) (.t 20))⟩,
      ⟨some 22, none, [], .p (.iaddrA 5 1 (.t 2) (.c (.int .i64 1)))⟩,
      ⟨some 23, none, [], .r (.load1 (.t 22))⟩,
      ⟨some 24, none, [], .p (.bin .shr (.t 23) (.c (u64 6#64)))⟩,
      ⟨some 25, none, [], .p (.iaddrA 5 1 (.t 2) (.c (.int .i64 2)))⟩,
      ⟨some 26, none, [], .r (.load1 (.t 25))⟩,
      ⟨some 27, none, [], .p (.bin .shl (.t 26) (.c (u64 20#64)))⟩,
      ⟨some 28, none, [], .p (.bin .or (.t 24) (.t 27))⟩,
      ⟨some 29, none, [], .p (.iaddrA 5 1 (.t 2) (.c (.int .i64 2)))⟩,
      ⟨some 30, none, [], .r (.load1 (.t 29))⟩,
      ⟨some 31, none, [], .p (.bin .shr (.t 30) (.c (u64 12#64)))⟩,
      ⟨some 32, none, [], .p (.iaddrA 5 1 (.t 2) (.c (.int .i64 3)))⟩,
      ⟨some 33, none, [], .r (.load1 (.t 32))⟩,
      ⟨some 34, none, [], .p (.bin .shl (.t 33) (.c (u64 14#64)))⟩,
      ⟨some 35, none, [], .p (.bin .or (.t 31) (.t 34))⟩,
      ⟨some 36, none, [], .p (.iaddrA 5 1 (.t 2) (.c (.int .i64 3)))⟩,
      ⟨some 37, none, [], .r (.load1 (.t 36))⟩,
      ⟨some 38, none, [], .p (.bin .shr (.t 37) (.c (u64 18#64)))⟩,
      ⟨some 39, none, [], .p (.iaddrA 5 1 (.t 2) (.c (.int .i64 4)))⟩,
      ⟨some 40, none, [], .r (.load1 (.t 39))⟩,
      ⟨some 41, none, [], .p (.bin .shl (.t 40) (.c (u64 8#64)))⟩,
      ⟨some 42, none, [], .p (.bin .or (.t 38) (.t 41))⟩,
      ⟨some 43, none, [], .p (.build [u64 0#64, u64 0#64, u64 0#64, u64 0#64] [(0, 1, .t 21), (1, 1, .t 28), (2, 1, .t 35), (3, 1, .t 42)])⟩,
      ⟨some 7, none, [], .a 8112 (.alloc [u64 0#64, u64 0#64, u64 0#64, u64 0#64])⟩,
      ⟨none, none, [], .w (.storeN 4 (.t 7) (.t 43))⟩]) (
  .seq (
    .region [
      ⟨some 44, none, [], .a 12000 (.mkSlice 1 4 [u32 0#32] (.c (.int .i64 4)) (.c (.int .i64 4)))⟩,
      ⟨some 8, none, [], .p (.mv (.t 44))⟩,
      ⟨some 9, none, [], .p (.mv (.c (u64 0#64)))⟩]) (
  .seq (
    .seq (
      .region [
        ⟨some 45, none, [], .p (.mv (.c (.int .i64 0)))⟩]) (
    .block 0 (
      .loop k32_0 a32_0 s32_b0))) (
  .seq (
    .region [
      ⟨some 68, none, [], .p (.mv (.t 8))⟩,
      ⟨some 69, none, [], .call 44004 4 true (.f 42) [.t 68]⟩,
      ⟨some 4, none, [], .p (.mv (.t 69))⟩]) (
  .ret)))))),
  70, [Sum.inl 4]⟩

theorem c32 : cFunc Try.prog quiet Try.f32 [[5, 7, 8, 9, 45], [8]] = some s32 := by kernel_rfl

-- 33 calls [43]
abbrev k33_0 : List Nat := [2, 3, 4, 5, 6]
abbrev a33_0 : List Nat := [2, 4]
abbrev e33_0 (v2 v3 v4 v5 v6 : AV) : Env := [.dead, .dead, v2, v3, v4, v5, v6, .dead, .dead, .dead, .dead, .dead, .dead, .dead, .dead, .dead, .dead, .dead, .dead, .dead, .dead, .dead, .dead, .dead, .dead, .dead, .dead, .dead]
abbrev x33_0 (v2 v4 : AV) : Env := [.dead, .dead, v2, .dead, v4, .dead, .dead, .dead, .dead, .dead, .dead, .dead, .dead, .dead, .dead, .dead, .dead, .dead, .dead, .dead, .dead, .dead, .dead, .dead, .dead, .dead, .dead, .dead]
def s33_b0 : SCode :=
  .seq (
    .seq (
      .region [
        ⟨some 7, none, [], .p (.mv (.t 6))⟩,
        ⟨some 8, none, [], .p (.bin .lss (.t 7) (.c (.int .i64 17)))⟩]) (
    .cond (.t 8) (
      .skip) (
      .exit 0))) (
  .seq (
    .block 1 (
      .seq (
        .region [
          ⟨some 11, none, [], .p (.mv (.t 5))⟩,
          ⟨some 12, none, [], .p (.mv (.t 6))⟩,
          ⟨some 13, none, [], .p (.iaddrA 17 1 (.t 2) (.t 12))⟩,
          ⟨some 14, none, [], .r (.load1 (.t 13))⟩,
          ⟨some 15, none, [], .p (.bin .add (.t 11) (.t 14))⟩,
          ⟨some 16, none, [], .p (.mv (.t 6))⟩,
          ⟨some 17, none, [], .p (.iaddrA 17 1 (.t 3) (.t 16))⟩,
          ⟨some 18, none, [], .r (.load1 (.t 17))⟩,
          ⟨some 19, none, [], .p (.bin .add (.t 15) (.t 18))⟩,
          ⟨some 5, none, [], .p (.mv (.t 19))⟩]) (
      .seq (
        .region [
          ⟨some 20, none, [], .p (.mv (.t 6))⟩,
          ⟨some 21, none, [], .p (.mv (.t 5))⟩,
          ⟨some 22, none, [], .p (.bin .rem (.t 21) (.c (.int .i64 256)))⟩,
          ⟨some 23, none, [], .p (.iaddrA 17 1 (.t 2) (.t 20))⟩,
          ⟨none, none, [], .w (.store1 (.t 23) (.t 22))⟩]) (
      .region [
        ⟨some 24, none, [], .p (.mv (.t 5))⟩,
        ⟨some 25, none, [], .p (.bin .quo (.t 24) (.c (.int .i64 256)))⟩,
        ⟨some 5, none, [], .p (.mv (.t 25))⟩])))) (
  .region [
    ⟨some 9, none, [], .p (.mv (.t 6))⟩,
    ⟨some 10, none, [], .p (.bin .add (.t 9) (.c (.int .i64 1)))⟩,
    ⟨some 6, none, [], .p (.mv (.t 10))⟩]))

def s33 : SFunc := ⟨
  .seq (
    .region [
      ⟨some 2, none, [], .a 0 (.box (.t 0))⟩,
      ⟨some 3, none, [], .a 4 (.box (.t 1))⟩,
      ⟨some 4, none, [], .a 8 (.alloc [.int .i64 0, .int .i64 0, .int .i64 0, .int .i64 0, .int .i64 0, .int .i64 0, .int .i64 0, .int .i64 0, .int .i64 0, .int .i64 0, .int .i64 0, .int .i64 0, .int .i64 0, .int .i64 0, .int .i64 0, .int .i64 0, .int .i64 0])⟩]) (
  .seq (
    .region [
      ⟨some 5, none, [], .p (.mv (.c (.int .i64 0)))⟩]) (
  .seq (
    .seq (
      .region [
        ⟨some 6, none, [], .p (.mv (.c (.int .i64 0)))⟩]) (
    .block 0 (
      .loop k33_0 a33_0 s33_b0))) (
  .seq (
    .region [
      ⟨some 26, none, [], .r (.loadN 17 (.t 2))⟩,
      ⟨some 27, none, [], .call 32004 4 true (.f 43) [.t 26]⟩,
      ⟨none, none, [], .w (.storeN 17 (.t 4) (.t 27))⟩]) (
  .ret)))),
  28, [Sum.inr (4, 17, true)]⟩

theorem c33 : cFunc Try.prog quiet Try.f33 [[2, 3, 4, 5, 6], [2, 4]] = some s33 := by kernel_rfl

-- 34 calls [33]
abbrev k34_1 : List Nat := [2, 3, 4, 5, 6, 7, 8]
abbrev a34_1 : List Nat := [2, 3, 4, 5, 6]
abbrev e34_1 (v2 v3 v4 v5 v6 v7 v8 : AV) : Env := [.dead, .dead, v2, v3, v4, v5, v6, v7, v8, .dead, .dead, .dead, .dead, .dead, .dead, .dead, .dead, .dead, .dead, .dead, .dead, .dead, .dead, .dead, .dead, .dead, .dead, .dead, .dead, .dead, .dead, .dead, .dead]
abbrev x34_1 (v2 v3 v4 v5 v6 : AV) : Env := [.dead, .dead, v2, v3, v4, v5, v6, .dead, .dead, .dead, .dead, .dead, .dead, .dead, .dead, .dead, .dead, .dead, .dead, .dead, .dead, .dead, .dead, .dead, .dead, .dead, .dead, .dead, .dead, .dead, .dead, .dead, .dead]
def s34_b1 : SCode :=
  .seq (
    .seq (
      .region [
        ⟨some 13, none, [], .p (.mv (.t 8))⟩,
        ⟨some 14, none, [], .p (.bin .lss (.t 13) (.c (.int .i64 8)))⟩]) (
    .cond (.t 14) (
      .skip) (
      .exit 2))) (
  .seq (
    .block 3 (
      .seq (
        .region [
          ⟨some 17, none, [], .r (.loadN 17 (.t 5))⟩,
          ⟨some 18, none, [], .r (.loadN 17 (.t 5))⟩,
          ⟨some 19, none, [], .call 36008 4 true (.f 33) [.t 17, .t 18]⟩,
          ⟨none, none, [], .w (.storeN 17 (.t 5) (.t 19))⟩]) (
      .seq (
        .seq (
          .region [
            ⟨some 20, none, [], .p (.mv (.t 6))⟩,
            ⟨some 21, none, [], .p (.iaddrA 17 1 (.t 3) (.t 20))⟩,
            ⟨some 22, none, [], .r (.load1 (.t 21))⟩,
            ⟨some 23, none, [], .p (.mv (.t 7))⟩,
            ⟨some 24, none, [], .p (.bin .quo (.t 22) (.t 23))⟩,
            ⟨some 25, none, [], .p (.bin .rem (.t 24) (.c (.int .i64 2)))⟩,
            ⟨some 26, none, [], .p (.bin .eql (.t 25) (.c (.int .i64 1)))⟩]) (
        .cond (.t 26) (
          .region [
            ⟨some 27, none, [], .r (.loadN 17 (.t 5))⟩,
            ⟨some 28, none, [], .r (.loadN 17 (.t 2))⟩,
            ⟨some 29, none, [], .call 44008 4 true (.f 33) [.t 27, .t 28]⟩,
            ⟨none, none, [], .w (.storeN 17 (.t 5) (.t 29))⟩]) (
          .skip))) (
      .region [
        ⟨some 30, none, [], .p (.mv (.t 7))⟩,
        ⟨some 31, none, [], .p (.bin .quo (.t 30) (.c (.int .i64 2)))⟩,
        ⟨some 7, none, [], .p (.mv (.t 31))⟩])))) (
  .region [
    ⟨some 15, none, [], .p (.mv (.t 8))⟩,
    ⟨some 16, none, [], .p (.bin .add (.t 15) (.c (.int .i64 1)))⟩,
    ⟨some 8, none, [], .p (.mv (.t 16))⟩]))

abbrev k34_0 : List Nat := [2, 3, 4, 5, 6]
abbrev a34_0 : List Nat := [4, 5]
abbrev e34_0 (v2 v3 v4 v5 v6 : AV) : Env := [.dead, .dead, v2, v3, v4, v5, v6, .dead, .dead, .dead, .dead, .dead, .dead, .dead, .dead, .dead, .dead, .dead, .dead, .dead, .dead, .dead, .dead, .dead, .dead, .dead, .dead, .dead, .dead, .dead, .dead, .dead, .dead]
abbrev x34_0 (v4 v5 : AV) : Env := [.dead, .dead, .dead, .dead, v4, v5, .dead, .dead, .dead, .dead, .dead, .dead, .dead, .dead, .dead, .dead, .dead, .dead, .dead, .dead, .dead, .dead, .dead, .dead, .dead, .dead, .dead, .dead, .dead, .dead, .dead, .dead, .dead]
def s34_b0 : SCode :=
  .seq (
    .seq (
      .region [
        ⟨some 9, none, [], .p (.mv (.t 6))⟩,
        ⟨some 10, none, [], .p (.bin .geq (.t 9) (.c (.int .i64 0)))⟩]) (
    .cond (.t 10) (
      .skip) (
      .exit 0))) (
  .seq (
    .block 1 (
      .seq (
        .region [
          ⟨some 7, none, [], .p (.mv (.c (.int .i64 128)))⟩]) (
      .seq (
        .region [
          ⟨some 8, none, [], .p (.mv (.c (.int .i64 0)))⟩]) (
      .block 2 (
        .loop k34_1 a34_1 s34_b1))))) (
  .region [
    ⟨some 11, none, [], .p (.mv (.t 6))⟩,
    ⟨some 12, none, [], .p (.bin .sub (.t 11) (.c (.int .i64 1)))⟩,
    ⟨some 6, none, [], .p (.mv (.t 12))⟩]))

def s34 : SFunc := ⟨
  .seq (
    .region [
      ⟨some 2, none, [], .a 0 (.box (.t 0))⟩,
      ⟨some 3, none, [], .a 4 (.box (.t 1))⟩,
      ⟨some 4, none, [], .a 8 (.alloc [.int .i64 0, .int .i64 0, .int .i64 0, .int .i64 0, .int .i64 0, .int .i64 0, .int .i64 0, .int .i64 0, .int .i64 0, .int .i64 0, .int .i64 0, .int .i64 0, .int .i64 0, .int .i64 0, .int .i64 0, .int .i64 0, .int .i64 0])⟩]) (
  .seq (
    .region [
      ⟨some 5, none, [], .a 4000 (.alloc [.int .i64 0, .int .i64 0, .int .i64 0, .int .i64 0, .int .i64 0, .int .i64 0, .int .i64 0, .int .i64 0, .int .i64 0, .int .i64 0, .int .i64 0, .int .i64 0, .int .i64 0, .int .i64 0, .int .i64 0, .int .i64 0, .int .i64 0])⟩]) (
  .seq (
    .seq (
      .region [
        ⟨some 6, none, [], .p (.mv (.c (.int .i64 16)))⟩]) (
    .block 0 (
      .loop k34_0 a34_0 s34_b0))) (
  .seq (
    .region [
      ⟨some 32, none, [], .r (.loadN 17 (.t 5))⟩,
      ⟨none, none, [], .w (.storeN 17 (.t 4) (.t 32))⟩]) (
  .ret)))),
  33, [Sum.inr (4, 17, true)]⟩

theorem c34 : cFunc Try.prog quiet Try.f34 [[2, 3, 4, 5, 6], [4, 5], [2, 3, 4, 5, 6, 7, 8], [2, 3, 4, 5, 6]] = some s34 := by kernel_rfl

-- 35 calls []
def s35 : SFunc := ⟨
  .seq (
    .region [
      ⟨some 4, none, [], .p (.mv (.c (.bool false)))⟩]) (
  .seq (
    .region [
      ⟨some 5, none, [], .p (.mv (.t 0))⟩,
      ⟨some 6, none, [], .p (.lenV false (.t 5))⟩,
      ⟨some 7, none, [], .p (.bin .eql (.t 6) (.c (.int .i64 32)))⟩,
      ⟨some 8, none, [], .p (.mv (.t 7))⟩,
      ⟨some 9, some (8, true), [], .p (.mv (.t 1))⟩,
      ⟨some 10, some (8, true), [], .p (.lenV false (.t 9))⟩,
      ⟨some 11, some (8, true), [], .p (.bin .eql (.t 10) (.c (.int .i64 12)))⟩,
      ⟨some 12, none, [], .p (.pick (.t 8) (.t 11) (.c (.bool false)))⟩,
      ⟨some 4, none, [], .p (.mv (.t 12))⟩]) (
  .ret)),
  13, [Sum.inl 4]⟩

theorem c35 : cFunc Try.prog quiet Try.f35 [] = some s35 := by kernel_rfl

-- 36 calls [28, 44, 45]
abbrev k36_0 : List Nat := [0, 1, 2, 3, 10]
abbrev a36_0 : List Nat := [10]
abbrev e36_0 (v0 v1 v2 v3 v10 : AV) : Env := [v0, v1, v2, v3, .dead, .dead, .dead, .dead, .dead, .dead, v10, .dead, .dead, .dead, .dead, .dead, .dead, .dead, .dead, .dead, .dead, .dead, .dead, .dead, .dead, .dead, .dead, .dead, .dead, .dead, .dead, .dead, .dead, .dead, .dead, .dead, .dead, .dead, .dead, .dead, .dead, .dead, .dead, .dead, .dead, .dead, .dead]
abbrev x36_0 (v10 : AV) : Env := [.dead, .dead, .dead, .dead, .dead, .dead, .dead, .dead, .dead, .dead, v10, .dead, .dead, .dead, .dead, .dead, .dead, .dead, .dead, .dead, .dead, .dead, .dead, .dead, .dead, .dead, .dead, .dead, .dead, .dead, .dead, .dead, .dead, .dead, .dead, .dead, .dead, .dead, .dead, .dead, .dead, .dead, .dead, .dead, .dead, .dead, .dead]
def s36_b0 : SCode :=
  .seq (
    .seq (
      .region [
        ⟨some 24, none, [], .p (.mv (.t 3))⟩,
        ⟨some 25, none, [], .p (.lenV false (.t 24))⟩,
        ⟨some 26, none, [], .p (.bin .gtr (.t 25) (.c (.int .i64 0)))⟩]) (
    .cond (.t 26) (
      .skip) (
      .exit 1))) (
  .seq (
    .block 2 (
      .seq (
        .region [
          ⟨some 29, none, [], .p (.mv (.t 3))⟩,
          ⟨some 30, none, [], .p (.lenV false (.t 29))⟩,
          ⟨some 31, none, [], .p (.minmax false (.t 30) (.c (.int .i64 64)))⟩,
          ⟨some 11, none, [], .p (.mv (.t 31))⟩]) (
      .seq (
        .region [
          ⟨some 32, none, [], .p (.mv (.t 10))⟩,
          ⟨some 33, none, [], .p (.mv (.t 3))⟩,
          ⟨some 34, none, [], .p (.mv (.t 11))⟩,
          ⟨some 35, none, [], .p (.slcStr (.t 33) none (some (.t 34)))⟩,
          ⟨some 36, none, [], .p (.mv (.t 0))⟩,
          ⟨some 37, none, [], .p (.mv (.t 1))⟩,
          ⟨some 38, none, [], .p (.mv (.t 2))⟩,
          ⟨some 39, none, [], .call 36028 4 true (.f 45) [.t 36, .t 37, .t 38]⟩,
          ⟨some 40, none, [], .call 36032 4 true (.f 28) [.t 35, .t 39]⟩,
          ⟨some 41, none, [], .w (.append 36036 1 1 (.t 32) (.t 40))⟩,
          ⟨some 10, none, [], .p (.mv (.t 41))⟩]) (
      .region [
        ⟨some 42, none, [], .p (.mv (.t 3))⟩,
        ⟨some 43, none, [], .p (.mv (.t 11))⟩,
        ⟨some 44, none, [], .p (.slcStr (.t 42) (some (.t 43)) none)⟩,
        ⟨some 3, none, [], .p (.mv (.t 44))⟩])))) (
  .region [
    ⟨some 27, none, [], .p (.mv (.t 2))⟩,
    ⟨some 28, none, [], .p (.bin .add (.t 27) (.c (u32 1#32)))⟩,
    ⟨some 2, none, [], .p (.mv (.t 28))⟩]))

def s36 : SFunc := ⟨
  .seq (
    .region [
      ⟨some 8, none, [], .p (.mv (.c (.str [])))⟩,
      ⟨some 9, none, [], .p (.mv (.c (.int .i64 0)))⟩]) (
  .seq (
    .block 0 (
      .seq (
        .region [
          ⟨some 13, none, [], .p (.mv (.t 0))⟩,
          ⟨some 14, none, [], .p (.mv (.t 1))⟩,
          ⟨some 15, none, [], .call 4008 4 true (.f 44) [.t 13, .t 14]⟩,
          ⟨some 16, none, [], .p (.un .not (.t 15))⟩,
          ⟨some 12, none, [], .p (.mv (.t 16))⟩]) (
      .cond (.t 12) (
        .seq (
          .region [
            ⟨some 8, none, [], .p (.mv (.c (.str [])))⟩,
            ⟨some 9, none, [], .p (.mv (.c (.int .i64 7)))⟩]) (
        .ret)) (
        .seq (
          .region [
            ⟨some 18, none, [], .p (.mv (.t 3))⟩,
            ⟨some 19, none, [], .p (.lenV false (.t 18))⟩,
            ⟨some 20, none, [], .p (.bin .gtr (.t 19) (.c (.int .i64 65536)))⟩,
            ⟨some 17, none, [], .p (.mv (.t 20))⟩]) (
        .cond (.t 17) (
          .seq (
            .region [
              ⟨some 8, none, [], .p (.mv (.c (.str [])))⟩,
              ⟨some 9, none, [], .p (.mv (.c (.int .i64 5)))⟩]) (
          .ret)) (
          .skip)))))) (
  .seq (
    .region [
      ⟨some 21, none, [], .p (.mv (.t 3))⟩,
      ⟨some 22, none, [], .p (.lenV false (.t 21))⟩,
      ⟨some 23, none, [], .a 20008 (.mkSlice 1 1 [byteAV 0] (.c (.int .i64 0)) (.t 22))⟩,
      ⟨some 10, none, [], .p (.mv (.t 23))⟩]) (
  .seq (
    .block 1 (
      .loop k36_0 a36_0 s36_b0)) (
  .seq (
    .region [
      ⟨some 45, none, [], .p (.mv (.t 10))⟩,
      ⟨some 46, none, [], .r (.toStr (.t 45))⟩,
      ⟨some 8, none, [], .p (.mv (.t 46))⟩,
      ⟨some 9, none, [], .p (.mv (.c (.int .i64 0)))⟩]) (
  .ret))))),
  47, [Sum.inl 8, Sum.inl 9]⟩

theorem c36 : cFunc Try.prog quiet Try.f36 [[0, 1, 2, 3, 10], [10]] = some s36 := by kernel_rfl

-- 37 calls [19, 46, 47, 48]
def s37 : SFunc := ⟨
  .seq (
    .region [
      ⟨some 8, none, [], .p (.mv (.c (.str [])))⟩]) (
  .seq (
    .region [
      ⟨some 14, none, [], .p (.mv (.t 0))⟩,
      ⟨some 15, none, [], .p (.mv (.t 1))⟩,
      ⟨some 16, none, [], .call 4008 4 true (.f 46) [.t 14, .t 15, .c (u32 0#32)]⟩,
      ⟨some 13, none, [], .p (.mv (.t 16))⟩,
      ⟨some 17, none, [], .p (.extract (.t 13) 0)⟩,
      ⟨some 18, none, [], .p (.extract (.t 13) 1)⟩,
      ⟨some 9, none, [], .p (.mv (.t 17))⟩,
      ⟨some 10, none, [], .p (.mv (.t 18))⟩]) (
  .seq (
    .region [
      ⟨some 20, none, [], .p (.mv (.t 9))⟩,
      ⟨some 21, none, [], .p (.slcStr (.t 20) none (some (.c (.int .i64 32))))⟩,
      ⟨some 22, none, [], .p (.mv (.t 2))⟩,
      ⟨some 23, none, [8036], .call 8012 4 true (.f 47) [.t 22]⟩,
      ⟨some 24, none, [], .p (.mv (.t 3))⟩,
      ⟨some 25, none, [8036], .call 8020 4 true (.f 47) [.t 24]⟩,
      ⟨some 26, none, [], .p (.bin .add (.t 23) (.t 25))⟩,
      ⟨some 27, none, [], .p (.mv (.t 2))⟩,
      ⟨some 28, none, [], .p (.mv (.t 3))⟩,
      ⟨some 29, none, [8012, 8013, 8014, 8015, 8020, 8021, 8022, 8023], .a 8036 (.buildS 1 2 [.str []] [(0, 1, .t 27), (1, 1, .t 28)])⟩,
      ⟨some 30, none, [], .call 8040 4 true (.f 48) [.t 29]⟩,
      ⟨some 31, none, [], .p (.bin .add (.t 26) (.t 30))⟩,
      ⟨some 32, none, [], .call 8048 4 true (.f 19) [.t 21, .t 31]⟩,
      ⟨some 19, none, [], .p (.mv (.t 32))⟩,
      ⟨some 33, none, [], .p (.extract (.t 19) 0)⟩,
      ⟨some 34, none, [], .p (.extract (.t 19) 1)⟩,
      ⟨some 11, none, [], .p (.mv (.t 33))⟩,
      ⟨some 12, none, [], .p (.mv (.t 34))⟩]) (
  .seq (
    .region [
      ⟨some 35, none, [], .p (.mv (.t 11))⟩,
      ⟨some 8, none, [], .p (.mv (.t 35))⟩]) (
  .ret)))),
  36, [Sum.inl 8]⟩

theorem c37 : cFunc Try.prog quiet Try.f37 [] = some s37 := by kernel_rfl

-- 38 calls [49, 50]
abbrev k38_0 : List Nat := [0, 1, 2, 3, 10]
abbrev a38_0 : List Nat := [3, 10]
abbrev e38_0 (v0 v1 v2 v3 v10 : AV) : Env := [v0, v1, v2, v3, .dead, .dead, .dead, .dead, .dead, .dead, v10, .dead, .dead, .dead, .dead, .dead, .dead, .dead, .dead, .dead, .dead, .dead, .dead, .dead, .dead, .dead, .dead, .dead, .dead, .dead, .dead, .dead, .dead, .dead, .dead, .dead, .dead, .dead, .dead, .dead, .dead, .dead, .dead, .dead, .dead, .dead]
abbrev x38_0 (v3 v10 : AV) : Env := [.dead, .dead, .dead, v3, .dead, .dead, .dead, .dead, .dead, .dead, v10, .dead, .dead, .dead, .dead, .dead, .dead, .dead, .dead, .dead, .dead, .dead, .dead, .dead, .dead, .dead, .dead, .dead, .dead, .dead, .dead, .dead, .dead, .dead, .dead, .dead, .dead, .dead, .dead, .dead, .dead, .dead, .dead, .dead, .dead, .dead]
def s38_b0 : SCode :=
  .seq (
    .seq (
      .region [
        ⟨some 25, none, [], .p (.mv (.t 10))⟩,
        ⟨some 26, none, [], .p (.lenV false (.t 25))⟩,
        ⟨some 27, none, [], .p (.mv (.t 3))⟩,
        ⟨some 28, none, [], .p (.lenV false (.t 27))⟩,
        ⟨some 29, none, [], .p (.bin .lss (.t 26) (.t 28))⟩]) (
    .cond (.t 29) (
      .skip) (
      .exit 0))) (
  .block 1 (
    .seq (
      .region [
        ⟨some 31, none, [], .p (.mv (.t 0))⟩,
        ⟨some 32, none, [], .p (.mv (.t 1))⟩,
        ⟨some 33, none, [], .p (.mv (.t 2))⟩,
        ⟨some 34, none, [], .call 28012 4 true (.f 49) [.t 31, .t 32, .t 33]⟩,
        ⟨some 30, none, [], .p (.mv (.t 34))⟩,
        ⟨some 35, none, [], .p (.extract (.t 30) 0)⟩,
        ⟨some 36, none, [], .p (.extract (.t 30) 1)⟩,
        ⟨some 11, none, [], .p (.mv (.t 35))⟩,
        ⟨some 12, none, [], .p (.mv (.t 36))⟩]) (
    .seq (
      .region [
        ⟨some 37, none, [], .p (.mv (.t 10))⟩,
        ⟨some 38, none, [], .p (.mv (.t 11))⟩,
        ⟨some 39, none, [], .p (.bin .add (.t 37) (.t 38))⟩,
        ⟨some 10, none, [], .p (.mv (.t 39))⟩]) (
    .region [
      ⟨some 40, none, [], .p (.mv (.t 2))⟩,
      ⟨some 41, none, [], .p (.bin .add (.t 40) (.c (u32 1#32)))⟩,
      ⟨some 2, none, [], .p (.mv (.t 41))⟩]))))

def s38 : SFunc := ⟨
  .seq (
    .region [
      ⟨some 8, none, [], .p (.mv (.c (.str [])))⟩,
      ⟨some 9, none, [], .p (.mv (.c (.int .i64 0)))⟩]) (
  .seq (
    .seq (
      .region [
        ⟨some 14, none, [], .p (.mv (.t 0))⟩,
        ⟨some 15, none, [], .p (.lenV false (.t 14))⟩,
        ⟨some 16, none, [], .p (.bin .neq (.t 15) (.c (.int .i64 32)))⟩,
        ⟨some 17, none, [], .p (.mv (.t 16))⟩,
        ⟨some 18, some (17, false), [], .p (.mv (.t 1))⟩,
        ⟨some 19, some (17, false), [], .p (.lenV false (.t 18))⟩,
        ⟨some 20, some (17, false), [], .p (.bin .neq (.t 19) (.c (.int .i64 12)))⟩,
        ⟨some 21, none, [], .p (.pick (.t 17) (.c (.bool true)) (.t 20))⟩]) (
    .cond (.t 21) (
      .seq (
        .region [
          ⟨some 8, none, [], .p (.mv (.c (.str [])))⟩,
          ⟨some 9, none, [], .p (.mv (.c (.int .i64 7)))⟩]) (
      .ret)) (
      .skip))) (
  .seq (
    .seq (
      .region [
        ⟨some 22, none, [], .p (.mv (.t 3))⟩,
        ⟨some 23, none, [], .p (.lenV false (.t 22))⟩,
        ⟨some 24, none, [], .p (.bin .gtr (.t 23) (.c (.int .i64 65536)))⟩]) (
    .cond (.t 24) (
      .seq (
        .region [
          ⟨some 8, none, [], .p (.mv (.c (.str [])))⟩,
          ⟨some 9, none, [], .p (.mv (.c (.int .i64 5)))⟩]) (
      .ret)) (
      .skip))) (
  .seq (
    .region [
      ⟨some 10, none, [], .p (.mv (.c (.str [])))⟩]) (
  .seq (
    .block 0 (
      .loop k38_0 a38_0 s38_b0)) (
  .seq (
    .region [
      ⟨some 42, none, [], .p (.mv (.t 3))⟩,
      ⟨some 43, none, [], .p (.mv (.t 10))⟩,
      ⟨some 44, none, [], .call 40008 4 true (.f 50) [.t 42, .t 43]⟩,
      ⟨some 13, none, [], .p (.mv (.t 44))⟩]) (
  .seq (
    .region [
      ⟨some 45, none, [], .p (.mv (.t 13))⟩,
      ⟨some 8, none, [], .p (.mv (.t 45))⟩,
      ⟨some 9, none, [], .p (.mv (.c (.int .i64 0)))⟩]) (
  .ret))))))),
  46, [Sum.inl 8, Sum.inl 9]⟩

theorem c38 : cFunc Try.prog quiet Try.f38 [[0, 1, 2, 3, 10], [3, 10]] = some s38 := by kernel_rfl

-- 39 calls [20, 49, 51, 52]
abbrev k39_0 : List Nat := [2, 3, 9, 11, 12]
abbrev a39_0 : List Nat := [2, 3, 9, 11]
abbrev e39_0 (v2 v3 v9 v11 v12 : AV) : Env := [.dead, .dead, v2, v3, .dead, .dead, .dead, .dead, .dead, v9, .dead, v11, v12, .dead, .dead, .dead, .dead, .dead, .dead, .dead, .dead, .dead, .dead, .dead, .dead, .dead, .dead, .dead, .dead, .dead, .dead, .dead, .dead, .dead, .dead, .dead, .dead, .dead, .dead, .dead, .dead, .dead, .dead, .dead, .dead, .dead, .dead, .dead, .dead, .dead, .dead, .dead, .dead, .dead, .dead]
abbrev x39_0 (v2 v3 v9 v11 : AV) : Env := [.dead, .dead, v2, v3, .dead, .dead, .dead, .dead, .dead, v9, .dead, v11, .dead, .dead, .dead, .dead, .dead, .dead, .dead, .dead, .dead, .dead, .dead, .dead, .dead, .dead, .dead, .dead, .dead, .dead, .dead, .dead, .dead, .dead, .dead, .dead, .dead, .dead, .dead, .dead, .dead, .dead, .dead, .dead, .dead, .dead, .dead, .dead, .dead, .dead, .dead, .dead, .dead, .dead, .dead]
def s39_b0 : SCode :=
  .seq (
    .seq (
      .region [
        ⟨some 24, none, [], .p (.mv (.t 12))⟩,
        ⟨some 25, none, [], .p (.mv (.t 3))⟩,
        ⟨some 26, none, [], .p (.lenV false (.t 25))⟩,
        ⟨some 27, none, [], .p (.bin .lss (.t 24) (.t 26))⟩]) (
    .cond (.t 27) (
      .skip) (
      .exit 0))) (
  .seq (
    .block 1 (
      .region [
        ⟨some 30, none, [], .p (.mv (.t 11))⟩,
        ⟨some 31, none, [], .p (.mv (.t 3))⟩,
        ⟨some 32, none, [], .p (.mv (.t 12))⟩,
        ⟨some 33, none, [], .p (.idxStr (.t 31) (.t 32))⟩,
        ⟨some 34, none, [], .a 24016 (.buildS 1 1 [byteAV 0] [(0, 1, .t 33)])⟩,
        ⟨some 35, none, [], .w (.append 24020 1 1 (.t 30) (.t 34))⟩,
        ⟨some 11, none, [], .p (.mv (.t 35))⟩])) (
  .region [
    ⟨some 28, none, [], .p (.mv (.t 12))⟩,
    ⟨some 29, none, [], .p (.bin .add (.t 28) (.c (.int .i64 1)))⟩,
    ⟨some 12, none, [], .p (.mv (.t 29))⟩]))

def s39 : SFunc := ⟨
  .seq (
    .region [
      ⟨some 8, none, [], .p (.mv (.c (.str [])))⟩]) (
  .seq (
    .region [
      ⟨some 16, none, [], .p (.mv (.t 0))⟩,
      ⟨some 17, none, [], .p (.mv (.t 1))⟩,
      ⟨some 18, none, [], .call 4008 4 true (.f 49) [.t 16, .t 17, .c (u32 0#32)]⟩,
      ⟨some 15, none, [], .p (.mv (.t 18))⟩,
      ⟨some 19, none, [], .p (.extract (.t 15) 0)⟩,
      ⟨some 20, none, [], .p (.extract (.t 15) 1)⟩,
      ⟨some 9, none, [], .p (.mv (.t 19))⟩,
      ⟨some 10, none, [], .p (.mv (.t 20))⟩]) (
  .seq (
    .region [
      ⟨some 21, none, [], .p (.mv (.t 2))⟩,
      ⟨some 22, none, [], .a 8004 (.toBytes (.t 21))⟩,
      ⟨some 23, none, [], .call 8008 4 false (.f 51) [.t 22]⟩,
      ⟨some 11, none, [], .p (.mv (.t 23))⟩]) (
  .seq (
    .seq (
      .region [
        ⟨some 12, none, [], .p (.mv (.c (.int .i64 0)))⟩]) (
    .block 0 (
      .loop k39_0 a39_0 s39_b0))) (
  .seq (
    .region [
      ⟨some 36, none, [], .p (.mv (.t 11))⟩,
      ⟨some 37, none, [], .call 28004 4 false (.f 51) [.t 36]⟩,
      ⟨some 11, none, [], .p (.mv (.t 37))⟩]) (
  .seq (
    .region [
      ⟨some 38, none, [], .p (.mv (.t 11))⟩,
      ⟨some 39, none, [], .p (.mv (.t 2))⟩,
      ⟨some 40, none, [], .p (.lenV false (.t 39))⟩,
      ⟨some 41, none, [], .call 32012 4 false (.f 52) [.t 38, .t 40]⟩,
      ⟨some 11, none, [], .p (.mv (.t 41))⟩]) (
  .seq (
    .region [
      ⟨some 42, none, [], .p (.mv (.t 11))⟩,
      ⟨some 43, none, [], .p (.mv (.t 3))⟩,
      ⟨some 44, none, [], .p (.lenV false (.t 43))⟩,
      ⟨some 45, none, [], .call 36012 4 false (.f 52) [.t 42, .t 44]⟩,
      ⟨some 11, none, [], .p (.mv (.t 45))⟩]) (
  .seq (
    .region [
      ⟨some 47, none, [], .p (.mv (.t 9))⟩,
      ⟨some 48, none, [], .p (.slcStr (.t 47) none (some (.c (.int .i64 32))))⟩,
      ⟨some 49, none, [], .p (.mv (.t 11))⟩,
      ⟨some 50, none, [], .r (.toStr (.t 49))⟩,
      ⟨some 51, none, [], .call 40016 4 true (.f 20) [.t 48, .t 50]⟩,
      ⟨some 46, none, [], .p (.mv (.t 51))⟩,
      ⟨some 52, none, [], .p (.extract (.t 46) 0)⟩,
      ⟨some 53, none, [], .p (.extract (.t 46) 1)⟩,
      ⟨some 13, none, [], .p (.mv (.t 52))⟩,
      ⟨some 14, none, [], .p (.mv (.t 53))⟩]) (
  .seq (
    .region [
      ⟨some 54, none, [], .p (.mv (.t 13))⟩,
      ⟨some 8, none, [], .p (.mv (.t 54))⟩]) (
  .ret))))))))),
  55, [Sum.inl 8]⟩

theorem c39 : cFunc Try.prog quiet Try.f39 [[2, 3, 9, 11, 12], [2, 3, 9, 11]] = some s39 := by kernel_rfl

-- 40 calls [53, 54]
def s40 : SFunc := ⟨
  .seq (
    .region [
      ⟨some 2, none, [], .p (.mv (.c (.slice none 0 0)))⟩,
      ⟨some 3, none, [], .p (.mv (.c (.int .i64 0)))⟩]) (
  .seq (
    .region [
      ⟨some 4, none, [], .p (.mv (.t 0))⟩,
      ⟨some 5, none, [], .call 4004 4 true (.f 53) [.t 4, .f 54]⟩,
      ⟨some 6, none, [], .p (.extract (.t 5) 0)⟩,
      ⟨some 7, none, [], .p (.extract (.t 5) 1)⟩,
      ⟨some 2, none, [], .p (.mv (.t 6))⟩,
      ⟨some 3, none, [], .p (.mv (.t 7))⟩]) (
  .ret)),
  8, [Sum.inl 2, Sum.inl 3]⟩

theorem c40 : cFunc Try.prog quiet Try.f40 [] = some s40 := by kernel_rfl

-- 41 calls []
abbrev k41_0 : List Nat := [0, 2, 4]
abbrev a41_0 : List Nat := [0, 2]
abbrev e41_0 (v0 v2 v4 : AV) : Env := [v0, .dead, v2, .dead, v4, .dead, .dead, .dead, .dead, .dead, .dead, .dead, .dead, .dead, .dead, .dead, .dead, .dead, .dead, .dead, .dead, .dead, .dead, .dead, .dead, .dead, .dead, .dead, .dead, .dead, .dead, .dead, .dead, .dead, .dead, .dead, .dead, .dead, .dead, .dead, .dead, .dead, .dead, .dead, .dead, .dead, .dead, .dead, .dead, .dead, .dead, .dead, .dead, .dead, .dead, .dead, .dead, .dead, .dead]
abbrev x41_0 (v0 v2 : AV) : Env := [v0, .dead, v2, .dead, .dead, .dead, .dead, .dead, .dead, .dead, .dead, .dead, .dead, .dead, .dead, .dead, .dead, .dead, .dead, .dead, .dead, .dead, .dead, .dead, .dead, .dead, .dead, .dead, .dead, .dead, .dead, .dead, .dead, .dead, .dead, .dead, .dead, .dead, .dead, .dead, .dead, .dead, .dead, .dead, .dead, .dead, .dead, .dead, .dead, .dead, .dead, .dead, .dead, .dead, .dead, .dead, .dead, .dead, .dead]
def s41_b0 : SCode :=
  .seq (
    .region [
      ⟨some 5, none, [], .p (.bin .lss (.t 4) (.c (.int .i64 5)))⟩]) (
  .seq (
    .cond (.t 5) (
      .skip) (
      .exit 0)) (
  .seq (
    .block 1 (
      .seq (
        .region [
          ⟨some 6, none, [], .p (.mv (.t 4))⟩,
          ⟨some 3, none, [], .p (.mv (.t 6))⟩]) (
      .seq (
        .region [
          ⟨some 7, none, [], .p (.mv (.t 0))⟩,
          ⟨some 8, none, [], .p (.mv (.t 3))⟩,
          ⟨some 9, none, [], .p (.nilChk (.t 7))⟩,
          ⟨some 10, none, [], .p (.iaddrA 5 1 (.t 9) (.t 8))⟩,
          ⟨some 11, none, [], .r (.load1 (.t 10))⟩,
          ⟨some 12, none, [], .p (.mv (.t 2))⟩,
          ⟨some 13, none, [], .p (.bin .add (.t 11) (.t 12))⟩,
          ⟨some 14, none, [], .p (.nilChk (.t 7))⟩,
          ⟨some 15, none, [], .p (.iaddrA 5 1 (.t 14) (.t 8))⟩,
          ⟨none, none, [], .w (.store1 (.t 15) (.t 13))⟩]) (
      .seq (
        .region [
          ⟨some 16, none, [], .p (.mv (.t 0))⟩,
          ⟨some 17, none, [], .p (.mv (.t 3))⟩,
          ⟨some 18, none, [], .p (.nilChk (.t 16))⟩,
          ⟨some 19, none, [], .p (.iaddrA 5 1 (.t 18) (.t 17))⟩,
          ⟨some 20, none, [], .r (.load1 (.t 19))⟩,
          ⟨some 21, none, [], .p (.bin .shr (.t 20) (.c (u64 26#64)))⟩,
          ⟨some 2, none, [], .p (.mv (.t 21))⟩]) (
      .region [
        ⟨some 22, none, [], .p (.mv (.t 0))⟩,
        ⟨some 23, none, [], .p (.mv (.t 3))⟩,
        ⟨some 24, none, [], .p (.nilChk (.t 22))⟩,
        ⟨some 25, none, [], .p (.iaddrA 5 1 (.t 24) (.t 23))⟩,
        ⟨some 26, none, [], .r (.load1 (.t 25))⟩,
        ⟨some 27, none, [], .p (.bin .and (.t 26) (.c (u64 67108863#64)))⟩,
        ⟨some 28, none, [], .p (.nilChk (.t 22))⟩,
        ⟨some 29, none, [], .p (.iaddrA 5 1 (.t 28) (.t 23))⟩,
        ⟨none, none, [], .w (.store1 (.t 29) (.t 27))⟩]))))) (
  .region [
    ⟨some 30, none, [], .p (.bin .add (.t 4) (.c (.int .i64 1)))⟩,
    ⟨some 4, none, [], .p (.mv (.t 30))⟩])))

def s41 : SFunc := ⟨
  .seq (
    .region [
      ⟨some 2, none, [], .p (.mv (.c (u64 0#64)))⟩]) (
  .seq (
    .seq (
      .region [
        ⟨some 4, none, [], .p (.mv (.c (.int .i64 0)))⟩]) (
    .block 0 (
      .loop k41_0 a41_0 s41_b0))) (
  .seq (
    .region [
      ⟨some 31, none, [], .p (.mv (.t 0))⟩,
      ⟨some 32, none, [], .p (.nilChk (.t 31))⟩,
      ⟨some 33, none, [], .p (.iaddrA 5 1 (.t 32) (.c (.int .i64 0)))⟩,
      ⟨some 34, none, [], .r (.load1 (.t 33))⟩,
      ⟨some 35, none, [], .p (.mv (.t 2))⟩,
      ⟨some 36, none, [], .p (.bin .mul (.t 35) (.c (u64 5#64)))⟩,
      ⟨some 37, none, [], .p (.bin .add (.t 34) (.t 36))⟩,
      ⟨some 38, none, [], .p (.nilChk (.t 31))⟩,
      ⟨some 39, none, [], .p (.iaddrA 5 1 (.t 38) (.c (.int .i64 0)))⟩,
      ⟨none, none, [], .w (.store1 (.t 39) (.t 37))⟩]) (
  .seq (
    .region [
      ⟨some 40, none, [], .p (.mv (.t 0))⟩,
      ⟨some 41, none, [], .p (.nilChk (.t 40))⟩,
      ⟨some 42, none, [], .p (.iaddrA 5 1 (.t 41) (.c (.int .i64 1)))⟩,
      ⟨some 43, none, [], .r (.load1 (.t 42))⟩,
      ⟨some 44, none, [], .p (.mv (.t 0))⟩,
      ⟨some 45, none, [], .p (.nilChk (.t 44))⟩,
      ⟨some 46, none, [], .p (.iaddrA 5 1 (.t 45) (.c (.int .i64 0)))⟩,
      ⟨some 47, none, [], .r (.load1 (.t 46))⟩,
      ⟨some 48, none, [], .p (.bin .shr (.t 47) (.c (u64 26#64)))⟩,
      ⟨some 49, none, [], .p (.bin .add (.t 43) (.t 48))⟩,
      ⟨some 50, none, [], .p (.nilChk (.t 40))⟩,
      ⟨some 51, none, [], .p (.iaddrA 5 1 (.t 50) (.c (.int .i64 1)))⟩,
      ⟨none, none, [], .w (.store1 (.t 51) (.t 49))⟩]) (
  .region [
    ⟨some 52, none, [], .p (.mv (.t 0))⟩,
    ⟨some 53, none, [], .p (.nilChk (.t 52))⟩,
    ⟨some 54, none, [], .p (.iaddrA 5 1 (.t 53) (.c (.int .i64 0)))⟩,
    ⟨some 55, none, [], .r (.load1 (.t 54))⟩,
    ⟨some 56, none, [], .p (.bin .and (.t 55) (.c (u64 67108863#64)))⟩,
    ⟨some 57, none, [], .p (.nilChk (.t 52))⟩,
    ⟨some 58, none, [], .p (.iaddrA 5 1 (.t 57) (.c (.int .i64 0)))⟩,
    ⟨none, none, [], .w (.store1 (.t 58) (.t 56))⟩])))),
  59, []⟩

theorem c41 : cFunc Try.prog quiet Try.f41 [[0, 2, 4], [0, 2]] = some s41 := by kernel_rfl

-- 42 calls []
abbrev k42_0 : List Nat := [3, 10, 11, 12]
abbrev a42_0 : List Nat := [3]
abbrev e42_0 (v3 v10 v11 v12 : AV) : Env := [.dead, .dead, .dead, v3, .dead, .dead, .dead, .dead, .dead, .dead, v10, v11, v12, .dead, .dead, .dead, .dead, .dead, .dead, .dead, .dead, .dead, .dead, .dead, .dead, .dead, .dead, .dead, .dead, .dead, .dead, .dead, .dead]
abbrev x42_0 (v3 : AV) : Env := [.dead, .dead, .dead, v3, .dead, .dead, .dead, .dead, .dead, .dead, .dead, .dead, .dead, .dead, .dead, .dead, .dead, .dead, .dead, .dead, .dead, .dead, .dead, .dead, .dead, .dead, .dead, .dead, .dead, .dead, .dead, .dead, .dead]
def s42_b0 : SCode :=
  .seq (
    .region [
      ⟨some 13, none, [], .p (.bin .lss (.t 12) (.t 11))⟩]) (
  .seq (
    .cond (.t 13) (
      .skip) (
      .exit 0)) (
  .seq (
    .block 1 (
      .seq (
        .region [
          ⟨some 14, none, [], .p (.iaddrS 1 (.t 10) (.t 12))⟩,
          ⟨some 15, none, [], .r (.load1 (.t 14))⟩,
          ⟨some 5, none, [], .p (.mv (.t 15))⟩]) (
      .region [
        ⟨some 16, none, [], .p (.mv (.t 3))⟩,
        ⟨some 17, none, [], .p (.mv (.t 5))⟩,
        ⟨some 18, none, [], .p (.conv .u8 (.t 17))⟩,
        ⟨some 19, none, [], .p (.mv (.t 5))⟩,
        ⟨some 20, none, [], .p (.bin .shr (.t 19) (.c (u64 8#64)))⟩,
        ⟨some 21, none, [], .p (.conv .u8 (.t 20))⟩,
        ⟨some 22, none, [], .p (.mv (.t 5))⟩,
        ⟨some 23, none, [], .p (.bin .shr (.t 22) (.c (u64 16#64)))⟩,
        ⟨some 24, none, [], .p (.conv .u8 (.t 23))⟩,
        ⟨some 25, none, [], .p (.mv (.t 5))⟩,
        ⟨some 26, none, [], .p (.bin .shr (.t 25) (.c (u64 24#64)))⟩,
        ⟨some 27, none, [], .p (.conv .u8 (.t 26))⟩,
        ⟨some 28, none, [], .a 20048 (.buildS 1 4 [byteAV 0] [(0, 1, .t 18), (1, 1, .t 21), (2, 1, .t 24), (3, 1, .t 27)])⟩,
        ⟨some 29, none, [], .w (.append 20052 1 1 (.t 16) (.t 28))⟩,
        ⟨some 3, none, [], .p (.mv (.t 29))⟩]))) (
  .region [
    ⟨some 30, none, [], .p (.bin .add (.t 12) (.c (.int .i64 1)))⟩,
    ⟨some 12, none, [], .p (.mv (.t 30))⟩])))

def s42 : SFunc := ⟨
  .seq (
    .region [
      ⟨some 2, none, [], .p (.mv (.c (.str [])))⟩]) (
  .seq (
    .region [
      ⟨some 6, none, [], .p (.mv (.t 0))⟩,
      ⟨some 7, none, [], .p (.lenV true (.t 6))⟩,
      ⟨some 8, none, [], .p (.bin .mul (.c (.int .i64 4)) (.t 7))⟩,
      ⟨some 9, none, [], .a 4012 (.mkSlice 1 1 [byteAV 0] (.c (.int .i64 0)) (.t 8))⟩,
      ⟨some 3, none, [], .p (.mv (.t 9))⟩]) (
  .seq (
    .seq (
      .region [
        ⟨some 10, none, [], .p (.mv (.t 0))⟩,
        ⟨some 11, none, [], .p (.lenV true (.t 10))⟩,
        ⟨some 12, none, [], .p (.mv (.c (.int .i64 0)))⟩]) (
    .block 0 (
      .loop k42_0 a42_0 s42_b0))) (
  .seq (
    .region [
      ⟨some 31, none, [], .p (.mv (.t 3))⟩,
      ⟨some 32, none, [], .r (.toStr (.t 31))⟩,
      ⟨some 2, none, [], .p (.mv (.t 32))⟩]) (
  .ret)))),
  33, [Sum.inl 2]⟩

theorem c42 : cFunc Try.prog quiet Try.f42 [[3, 10, 11, 12], [3]] = some s42 := by kernel_rfl

-- 43 calls [55]
abbrev k43_1 : List Nat := [1, 2, 3, 5, 6]
abbrev a43_1 : List Nat := [1, 2, 3]
abbrev e43_1 (v1 v2 v3 v5 v6 : AV) : Env := [.dead, v1, v2, v3, .dead, v5, v6, .dead, .dead, .dead, .dead, .dead, .dead, .dead, .dead, .dead, .dead, .dead, .dead, .dead, .dead, .dead, .dead, .dead, .dead, .dead, .dead, .dead, .dead, .dead, .dead, .dead, .dead, .dead, .dead, .dead, .dead, .dead, .dead, .dead]
abbrev x43_1 (v1 v2 v3 : AV) : Env := [.dead, v1, v2, v3, .dead, .dead, .dead, .dead, .dead, .dead, .dead, .dead, .dead, .dead, .dead, .dead, .dead, .dead, .dead, .dead, .dead, .dead, .dead, .dead, .dead, .dead, .dead, .dead, .dead, .dead, .dead, .dead, .dead, .dead, .dead, .dead, .dead, .dead, .dead, .dead]
def s43_b1 : SCode :=
  .seq (
    .seq (
      .region [
        ⟨some 17, none, [], .p (.mv (.t 6))⟩,
        ⟨some 18, none, [], .p (.bin .lss (.t 17) (.c (.int .i64 17)))⟩]) (
    .cond (.t 18) (
      .skip) (
      .exit 2))) (
  .seq (
    .block 3 (
      .seq (
        .region [
          ⟨some 7, none, [], .p (.mv (.c (.int .i64 255)))⟩]) (
      .seq (
        .seq (
          .region [
            ⟨some 21, none, [], .p (.mv (.t 6))⟩,
            ⟨some 22, none, [], .p (.bin .eql (.t 21) (.c (.int .i64 0)))⟩]) (
        .cond (.t 22) (
          .region [
            ⟨some 7, none, [], .p (.mv (.c (.int .i64 251)))⟩]) (
          .skip))) (
      .seq (
        .seq (
          .region [
            ⟨some 23, none, [], .p (.mv (.t 6))⟩,
            ⟨some 24, none, [], .p (.bin .eql (.t 23) (.c (.int .i64 16)))⟩]) (
        .cond (.t 24) (
          .region [
            ⟨some 7, none, [], .p (.mv (.c (.int .i64 3)))⟩]) (
          .skip))) (
      .seq (
        .region [
          ⟨some 25, none, [], .p (.mv (.t 6))⟩,
          ⟨some 26, none, [], .p (.iaddrA 17 1 (.t 1) (.t 25))⟩,
          ⟨some 27, none, [], .r (.load1 (.t 26))⟩,
          ⟨some 28, none, [], .p (.mv (.t 7))⟩,
          ⟨some 29, none, [], .p (.bin .sub (.t 27) (.t 28))⟩,
          ⟨some 30, none, [], .p (.mv (.t 5))⟩,
          ⟨some 31, none, [], .p (.bin .sub (.t 29) (.t 30))⟩,
          ⟨some 8, none, [], .p (.mv (.t 31))⟩]) (
      .seq (
        .region [
          ⟨some 5, none, [], .p (.mv (.c (.int .i64 0)))⟩]) (
      .seq (
        .seq (
          .region [
            ⟨some 32, none, [], .p (.mv (.t 8))⟩,
            ⟨some 33, none, [], .p (.bin .lss (.t 32) (.c (.int .i64 0)))⟩]) (
        .cond (.t 33) (
          .seq (
            .region [
              ⟨some 34, none, [], .p (.mv (.t 8))⟩,
              ⟨some 35, none, [], .p (.bin .add (.t 34) (.c (.int .i64 256)))⟩,
              ⟨some 8, none, [], .p (.mv (.t 35))⟩]) (
          .region [
            ⟨some 5, none, [], .p (.mv (.c (.int .i64 1)))⟩])) (
          .skip))) (
      .region [
        ⟨some 36, none, [], .p (.mv (.t 6))⟩,
        ⟨some 37, none, [], .p (.mv (.t 8))⟩,
        ⟨some 38, none, [], .p (.iaddrA 17 1 (.t 1) (.t 36))⟩,
        ⟨none, none, [], .w (.store1 (.t 38) (.t 37))⟩])))))))) (
  .region [
    ⟨some 19, none, [], .p (.mv (.t 6))⟩,
    ⟨some 20, none, [], .p (.bin .add (.t 19) (.c (.int .i64 1)))⟩,
    ⟨some 6, none, [], .p (.mv (.t 20))⟩]))

abbrev k43_0 : List Nat := [1, 2, 3]
abbrev a43_0 : List Nat := [1, 2]
abbrev e43_0 (v1 v2 v3 : AV) : Env := [.dead, v1, v2, v3, .dead, .dead, .dead, .dead, .dead, .dead, .dead, .dead, .dead, .dead, .dead, .dead, .dead, .dead, .dead, .dead, .dead, .dead, .dead, .dead, .dead, .dead, .dead, .dead, .dead, .dead, .dead, .dead, .dead, .dead, .dead, .dead, .dead, .dead, .dead, .dead]
abbrev x43_0 (v1 v2 : AV) : Env := [.dead, v1, v2, .dead, .dead, .dead, .dead, .dead, .dead, .dead, .dead, .dead, .dead, .dead, .dead, .dead, .dead, .dead, .dead, .dead, .dead, .dead, .dead, .dead, .dead, .dead, .dead, .dead, .dead, .dead, .dead, .dead, .dead, .dead, .dead, .dead, .dead, .dead, .dead, .dead]
def s43_b0 : SCode :=
  .seq (
    .seq (
      .region [
        ⟨some 9, none, [], .p (.mv (.t 3))⟩,
        ⟨some 10, none, [], .p (.bin .lss (.t 9) (.c (.int .i64 64)))⟩]) (
    .cond (.t 10) (
      .skip) (
      .exit 0))) (
  .seq (
    .block 1 (
      .seq (
        .region [
          ⟨some 13, none, [], .r (.loadN 17 (.t 1))⟩,
          ⟨some 14, none, [], .call 16004 4 true (.f 55) [.t 13]⟩,
          ⟨some 4, none, [], .p (.mv (.t 14))⟩]) (
      .seq (
        .seq (
          .region [
            ⟨some 15, none, [], .p (.mv (.t 4))⟩]) (
        .cond (.t 15) (
          .seq (
            .region [
              ⟨some 16, none, [], .r (.loadN 17 (.t 1))⟩,
              ⟨none, none, [], .w (.storeN 17 (.t 2) (.t 16))⟩]) (
          .ret)) (
          .skip))) (
      .seq (
        .region [
          ⟨some 5, none, [], .p (.mv (.c (.int .i64 0)))⟩]) (
      .seq (
        .region [
          ⟨some 6, none, [], .p (.mv (.c (.int .i64 0)))⟩]) (
      .block 2 (
        .loop k43_1 a43_1 s43_b1))))))) (
  .region [
    ⟨some 11, none, [], .p (.mv (.t 3))⟩,
    ⟨some 12, none, [], .p (.bin .add (.t 11) (.c (.int .i64 1)))⟩,
    ⟨some 3, none, [], .p (.mv (.t 12))⟩]))

def s43 : SFunc := ⟨
  .seq (
    .region [
      ⟨some 1, none, [], .a 0 (.box (.t 0))⟩,
      ⟨some 2, none, [], .a 4 (.alloc [.int .i64 0, .int .i64 0, .int .i64 0, .int .i64 0, .int .i64 0, .int .i64 0, .int .i64 0, .int .i64 0, .int .i64 0, .int .i64 0, .int .i64 0, .int .i64 0, .int .i64 0, .int .i64 0, .int .i64 0, .int .i64 0, .int .i64 0])⟩]) (
  .seq (
    .seq (
      .region [
        ⟨some 3, none, [], .p (.mv (.c (.int .i64 0)))⟩]) (
    .block 0 (
      .loop k43_0 a43_0 s43_b0))) (
  .seq (
    .region [
      ⟨some 39, none, [], .r (.loadN 17 (.t 1))⟩,
      ⟨none, none, [], .w (.storeN 17 (.t 2) (.t 39))⟩]) (
  .ret))),
  40, [Sum.inr (2, 17, true)]⟩

theorem c43 : cFunc Try.prog quiet Try.f43 [[1, 2, 3], [1, 2], [1, 2, 3, 5, 6], [1, 2, 3]] = some s43 := by kernel_rfl

-- 44 calls []
def s44 : SFunc := ⟨
  .seq (
    .region [
      ⟨some 4, none, [], .p (.mv (.c (.bool false)))⟩]) (
  .seq (
    .region [
      ⟨some 5, none, [], .p (.mv (.t 0))⟩,
      ⟨some 6, none, [], .p (.lenV false (.t 5))⟩,
      ⟨some 7, none, [], .p (.bin .eql (.t 6) (.c (.int .i64 32)))⟩,
      ⟨some 8, none, [], .p (.mv (.t 7))⟩,
      ⟨some 9, some (8, true), [], .p (.mv (.t 1))⟩,
      ⟨some 10, some (8, true), [], .p (.lenV false (.t 9))⟩,
      ⟨some 11, some (8, true), [], .p (.bin .eql (.t 10) (.c (.int .i64 12)))⟩,
      ⟨some 12, none, [], .p (.pick (.t 8) (.t 11) (.c (.bool false)))⟩,
      ⟨some 4, none, [], .p (.mv (.t 12))⟩]) (
  .ret)),
  13, [Sum.inl 4]⟩

theorem c44 : cFunc Try.prog quiet Try.f44 [] = some s44 := by kernel_rfl

-- 45 calls [40, 42, 56]
abbrev k45_3 : List Nat := [11, 12, 69]
abbrev a45_3 : List Nat := [12]
abbrev e45_3 (v11 v12 v69 : AV) : Env := [.dead, .dead, .dead, .dead, .dead, .dead, .dead, .dead, .dead, .dead, .dead, v11, v12, .dead, .dead, .dead, .dead, .dead, .dead, .dead, .dead, .dead, .dead, .dead, .dead, .dead, .dead, .dead, .dead, .dead, .dead, .dead, .dead, .dead, .dead, .dead, .dead, .dead, .dead, .dead, .dead, .dead, .dead, .dead, .dead, .dead, .dead, .dead, .dead, .dead, .dead, .dead, .dead, .dead, .dead, .dead, .dead, .dead, .dead, .dead, .dead, .dead, .dead, .dead, .dead, .dead, .dead, .dead, .dead, v69, .dead, .dead, .dead, .dead, .dead, .dead, .dead, .dead, .dead, .dead, .dead, .dead, .dead]
abbrev x45_3 (v12 : AV) : Env := [.dead, .dead, .dead, .dead, .dead, .dead, .dead, .dead, .dead, .dead, .dead, .dead, v12, .dead, .dead, .dead, .dead, .dead, .dead, .dead, .dead, .dead, .dead, .dead, .dead, .dead, .dead, .dead, .dead, .dead, .dead, .dead, .dead, .dead, .dead, .dead, .dead, .dead, .dead, .dead, .dead, .dead, .dead, .dead, .dead, .dead, .dead, .dead, .dead, .dead, .dead, .dead, .dead, .dead, .dead, .dead, .dead, .dead, .dead, .dead, .dead, .dead, .dead, .dead, .dead, .dead, .dead, .dead, .dead, .dead, .dead, .dead, .dead, .dead, .dead, .dead, .dead, .dead, .dead, .dead, .dead, .dead, .dead]
def s45_b3 : SCode :=
  .seq (
    .region [
      ⟨some 70, none, [], .p (.bin .lss (.t 69) (.c (.int .i64 16)))⟩]) (
  .seq (
    .cond (.t 70) (
      .skip) (
      .exit 6)) (
  .seq (
    .block 7 (
      .seq (
        .region [
          ⟨some 71, none, [], .p (.mv (.t 69))⟩,
          ⟨some 15, none, [], .p (.mv (.t 71))⟩]) (
      .region [
        ⟨some 72, none, [], .p (.mv (.t 15))⟩,
        ⟨some 73, none, [], .p (.iaddrA 16 1 (.t 12) (.t 72))⟩,
        ⟨some 74, none, [], .r (.load1 (.t 73))⟩,
        ⟨some 75, none, [], .p (.mv (.t 15))⟩,
        ⟨some 76, none, [], .p (.iaddrA 16 1 (.t 11) (.t 75))⟩,
        ⟨some 77, none, [], .r (.load1 (.t 76))⟩,
        ⟨some 78, none, [], .p (.bin .add (.t 74) (.t 77))⟩,
        ⟨some 79, none, [], .p (.iaddrA 16 1 (.t 12) (.t 72))⟩,
        ⟨none, none, [], .w (.store1 (.t 79) (.t 78))⟩]))) (
  .region [
    ⟨some 80, none, [], .p (.bin .add (.t 69) (.c (.int .i64 1)))⟩,
    ⟨some 69, none, [], .p (.mv (.t 80))⟩])))

abbrev k45_2 : List Nat := [11, 12, 36, 50]
abbrev a45_2 : List Nat := [11, 12, 36]
abbrev e45_2 (v11 v12 v36 v50 : AV) : Env := [.dead, .dead, .dead, .dead, .dead, .dead, .dead, .dead, .dead, .dead, .dead, v11, v12, .dead, .dead, .dead, .dead, .dead, .dead, .dead, .dead, .dead, .dead, .dead, .dead, .dead, .dead, .dead, .dead, .dead, .dead, .dead, .dead, .dead, .dead, .dead, v36, .dead, .dead, .dead, .dead, .dead, .dead, .dead, .dead, .dead, .dead, .dead, .dead, .dead, v50, .dead, .dead, .dead, .dead, .dead, .dead, .dead, .dead, .dead, .dead, .dead, .dead, .dead, .dead, .dead, .dead, .dead, .dead, .dead, .dead, .dead, .dead, .dead, .dead, .dead, .dead, .dead, .dead, .dead, .dead, .dead, .dead]
abbrev x45_2 (v11 v12 v36 : AV) : Env := [.dead, .dead, .dead, .dead, .dead, .dead, .dead, .dead, .dead, .dead, .dead, v11, v12, .dead, .dead, .dead, .dead, .dead, .dead, .dead, .dead, .dead, .dead, .dead, .dead, .dead, .dead, .dead, .dead, .dead, .dead, .dead, .dead, .dead, .dead, .dead, v36, .dead, .dead, .dead, .dead, .dead, .dead, .dead, .dead, .dead, .dead, .dead, .dead, .dead, .dead, .dead, .dead, .dead, .dead, .dead, .dead, .dead, .dead, .dead, .dead, .dead, .dead, .dead, .dead, .dead, .dead, .dead, .dead, .dead, .dead, .dead, .dead, .dead, .dead, .dead, .dead, .dead, .dead, .dead, .dead, .dead, .dead]
def s45_b2 : SCode :=
  .seq (
    .region [
      ⟨some 51, none, [], .p (.bin .lss (.t 50) (.c (.int .i64 4)))⟩]) (
  .seq (
    .cond (.t 51) (
      .skip) (
      .exit 4)) (
  .seq (
    .block 5 (
      .seq (
        .region [
          ⟨some 52, none, [], .p (.mv (.t 50))⟩,
          ⟨some 14, none, [], .p (.mv (.t 52))⟩]) (
      .region [
        ⟨some 53, none, [], .p (.mv (.t 14))⟩,
        ⟨some 54, none, [], .p (.mv (.t 14))⟩,
        ⟨some 55, none, [], .p (.bin .add (.t 54) (.c (.int .i64 1)))⟩,
        ⟨some 56, none, [], .p (.bin .rem (.t 55) (.c (.int .i64 4)))⟩,
        ⟨some 57, none, [], .p (.bin .add (.c (.int .i64 4)) (.t 56))⟩,
        ⟨some 58, none, [], .p (.mv (.t 14))⟩,
        ⟨some 59, none, [], .p (.bin .add (.t 58) (.c (.int .i64 2)))⟩,
        ⟨some 60, none, [], .p (.bin .rem (.t 59) (.c (.int .i64 4)))⟩,
        ⟨some 61, none, [], .p (.bin .add (.c (.int .i64 8)) (.t 60))⟩,
        ⟨some 62, none, [], .p (.mv (.t 14))⟩,
        ⟨some 63, none, [], .p (.bin .add (.t 62) (.c (.int .i64 3)))⟩,
        ⟨some 64, none, [], .p (.bin .rem (.t 63) (.c (.int .i64 4)))⟩,
        ⟨some 65, none, [], .p (.bin .add (.c (.int .i64 12)) (.t 64))⟩,
        ⟨some 66, none, [], .call 64052 4 false (.f 56) [.t 12, .t 53, .t 57, .t 61, .t 65]⟩]))) (
  .region [
    ⟨some 67, none, [], .p (.bin .add (.t 50) (.c (.int .i64 1)))⟩,
    ⟨some 50, none, [], .p (.mv (.t 67))⟩])))

abbrev k45_1 : List Nat := [11, 12, 36, 38]
abbrev a45_1 : List Nat := [11, 12, 36]
abbrev e45_1 (v11 v12 v36 v38 : AV) : Env := [.dead, .dead, .dead, .dead, .dead, .dead, .dead, .dead, .dead, .dead, .dead, v11, v12, .dead, .dead, .dead, .dead, .dead, .dead, .dead, .dead, .dead, .dead, .dead, .dead, .dead, .dead, .dead, .dead, .dead, .dead, .dead, .dead, .dead, .dead, .dead, v36, .dead, v38, .dead, .dead, .dead, .dead, .dead, .dead, .dead, .dead, .dead, .dead, .dead, .dead, .dead, .dead, .dead, .dead, .dead, .dead, .dead, .dead, .dead, .dead, .dead, .dead, .dead, .dead, .dead, .dead, .dead, .dead, .dead, .dead, .dead, .dead, .dead, .dead, .dead, .dead, .dead, .dead, .dead, .dead, .dead, .dead]
abbrev x45_1 (v11 v12 v36 : AV) : Env := [.dead, .dead, .dead, .dead, .dead, .dead, .dead, .dead, .dead, .dead, .dead, v11, v12, .dead, .dead, .dead, .dead, .dead, .dead, .dead, .dead, .dead, .dead, .dead, .dead, .dead, .dead, .dead, .dead, .dead, .dead, .dead, .dead, .dead, .dead, .dead, v36, .dead, .dead, .dead, .dead, .dead, .dead, .dead, .dead, .dead, .dead, .dead, .dead, .dead, .dead, .dead, .dead, .dead, .dead, .dead, .dead, .dead, .dead, .dead, .dead, .dead, .dead, .dead, .dead, .dead, .dead, .dead, .dead, .dead, .dead, .dead, .dead, .dead, .dead, .dead, .dead, .dead, .dead, .dead, .dead, .dead, .dead]
def s45_b1 : SCode :=
  .seq (
    .region [
      ⟨some 39, none, [], .p (.bin .lss (.t 38) (.c (.int .i64 4)))⟩]) (
  .seq (
    .cond (.t 39) (
      .skip) (
      .exit 2)) (
  .seq (
    .block 3 (
      .seq (
        .region [
          ⟨some 40, none, [], .p (.mv (.t 38))⟩,
          ⟨some 13, none, [], .p (.mv (.t 40))⟩]) (
      .region [
        ⟨some 41, none, [], .p (.mv (.t 13))⟩,
        ⟨some 42, none, [], .p (.mv (.t 13))⟩,
        ⟨some 43, none, [], .p (.bin .add (.t 42) (.c (.int .i64 4)))⟩,
        ⟨some 44, none, [], .p (.mv (.t 13))⟩,
        ⟨some 45, none, [], .p (.bin .add (.t 44) (.c (.int .i64 8)))⟩,
        ⟨some 46, none, [], .p (.mv (.t 13))⟩,
        ⟨some 47, none, [], .p (.bin .add (.t 46) (.c (.int .i64 12)))⟩,
        ⟨some 48, none, [], .call 44028 4 false (.f 56) [.t 12, .t 41, .t 43, .t 45, .t 47]⟩]))) (
  .region [
    ⟨some 49, none, [], .p (.bin .add (.t 38) (.c (.int .i64 1)))⟩,
    ⟨some 38, none, [], .p (.mv (.t 49))⟩])))

abbrev k45_0 : List Nat := [11, 12, 36]
abbrev a45_0 : List Nat := [11, 12]
abbrev e45_0 (v11 v12 v36 : AV) : Env := [.dead, .dead, .dead, .dead, .dead, .dead, .dead, .dead, .dead, .dead, .dead, v11, v12, .dead, .dead, .dead, .dead, .dead, .dead, .dead, .dead, .dead, .dead, .dead, .dead, .dead, .dead, .dead, .dead, .dead, .dead, .dead, .dead, .dead, .dead, .dead, v36, .dead, .dead, .dead, .dead, .dead, .dead, .dead, .dead, .dead, .dead, .dead, .dead, .dead, .dead, .dead, .dead, .dead, .dead, .dead, .dead, .dead, .dead, .dead, .dead, .dead, .dead, .dead, .dead, .dead, .dead, .dead, .dead, .dead, .dead, .dead, .dead, .dead, .dead, .dead, .dead, .dead, .dead, .dead, .dead, .dead, .dead]
abbrev x45_0 (v11 v12 : AV) : Env := [.dead, .dead, .dead, .dead, .dead, .dead, .dead, .dead, .dead, .dead, .dead, v11, v12, .dead, .dead, .dead, .dead, .dead, .dead, .dead, .dead, .dead, .dead, .dead, .dead, .dead, .dead, .dead, .dead, .dead, .dead, .dead, .dead, .dead, .dead, .dead, .dead, .dead, .dead, .dead, .dead, .dead, .dead, .dead, .dead, .dead, .dead, .dead, .dead, .dead, .dead, .dead, .dead, .dead, .dead, .dead, .dead, .dead, .dead, .dead, .dead, .dead, .dead, .dead, .dead, .dead, .dead, .dead, .dead, .dead, .dead, .dead, .dead, .dead, .dead, .dead, .dead, .dead, .dead, .dead, .dead, .dead, .dead]
def s45_b0 : SCode :=
  .seq (
    .region [
      ⟨some 37, none, [], .p (.bin .lss (.t 36) (.c (.int .i64 10)))⟩]) (
  .seq (
    .cond (.t 37) (
      .skip) (
      .exit 0)) (
  .seq (
    .block 1 (
      .seq (
        .seq (
          .region [
            ⟨some 38, none, [], .p (.mv (.c (.int .i64 0)))⟩]) (
        .block 2 (
          .loop k45_1 a45_1 s45_b1))) (
      .seq (
        .region [
          ⟨some 50, none, [], .p (.mv (.c (.int .i64 0)))⟩]) (
      .block 4 (
        .loop k45_2 a45_2 s45_b2))))) (
  .region [
    ⟨some 68, none, [], .p (.bin .add (.t 36) (.c (.int .i64 1)))⟩,
    ⟨some 36, none, [], .p (.mv (.t 68))⟩])))

def s45 : SFunc := ⟨
  .seq (
    .region [
      ⟨some 6, none, [], .p (.mv (.c (.str [])))⟩]) (
  .seq (
    .region [
      ⟨some 17, none, [], .p (.mv (.t 0))⟩,
      ⟨some 18, none, [], .p (.bin .add (.c (.str [101, 120, 112, 97, 110, 100, 32, 51, 50, 45, 98, 121, 116, 101, 32, 107])) (.t 17))⟩,
      ⟨some 19, none, [], .call 4008 4 true (.f 40) [.t 18]⟩,
      ⟨some 16, none, [], .p (.mv (.t 19))⟩,
      ⟨some 20, none, [], .p (.extract (.t 16) 0)⟩,
      ⟨some 21, none, [], .p (.extract (.t 16) 1)⟩,
      ⟨some 7, none, [], .p (.mv (.t 20))⟩,
      ⟨some 8, none, [], .p (.mv (.t 21))⟩]) (
  .seq (
    .region [
      ⟨some 23, none, [], .p (.mv (.t 1))⟩,
      ⟨some 24, none, [], .call 8004 4 true (.f 40) [.t 23]⟩,
      ⟨some 22, none, [], .p (.mv (.t 24))⟩,
      ⟨some 25, none, [], .p (.extract (.t 22) 0)⟩,
      ⟨some 26, none, [], .p (.extract (.t 22) 1)⟩,
      ⟨some 9, none, [], .p (.mv (.t 25))⟩,
      ⟨some 10, none, [], .p (.mv (.t 26))⟩]) (
  .seq (
    .region [
      ⟨some 11, none, [], .a 12000 (.alloc [u32 0#32, u32 0#32, u32 0#32, u32 0#32, u32 0#32, u32 0#32, u32 0#32, u32 0#32, u32 0#32, u32 0#32, u32 0#32, u32 0#32, u32 0#32, u32 0#32, u32 0#32, u32 0#32])⟩]) (
  .seq (
    .region [
      ⟨some 27, none, [], .p (.slcA 16 1 (.t 11) none none)⟩,
      ⟨some 28, none, [], .p (.mv (.t 7))⟩,
      ⟨some 29, none, [], .p (.mv (.t 2))⟩,
      ⟨some 30, none, [], .a 16012 (.buildS 1 1 [u32 0#32] [(0, 1, .t 29)])⟩,
      ⟨some 31, none, [], .w (.append 16016 1 4 (.t 28) (.t 30))⟩,
      ⟨some 32, none, [], .p (.mv (.t 9))⟩,
      ⟨some 33, none, [], .w (.append 16024 1 4 (.t 31) (.t 32))⟩,
      ⟨some 34, none, [], .w (.copy 1 (.t 27) (.t 33))⟩]) (
  .seq (
    .region [
      ⟨some 35, none, [], .r (.loadN 16 (.t 11))⟩,
      ⟨some 12, none, [], .a 20004 (.alloc [u32 0#32, u32 0#32, u32 0#32, u32 0#32, u32 0#32, u32 0#32, u32 0#32, u32 0#32, u32 0#32, u32 0#32, u32 0#32, u32 0#32, u32 0#32, u32 0#32, u32 0#32, u32 0#32])⟩,
      ⟨none, none, [], .w (.storeN 16 (.t 12) (.t 35))⟩]) (
  .seq (
    .seq (
      .region [
        ⟨some 36, none, [], .p (.mv (.c (.int .i64 0)))⟩]) (
    .block 0 (
      .loop k45_0 a45_0 s45_b0))) (
  .seq (
    .seq (
      .region [
        ⟨some 69, none, [], .p (.mv (.c (.int .i64 0)))⟩]) (
    .block 6 (
      .loop k45_3 a45_3 s45_b3))) (
  .seq (
    .region [
      ⟨some 81, none, [], .p (.slcA 16 1 (.t 12) none none)⟩,
      ⟨some 82, none, [], .call 96004 4 true (.f 42) [.t 81]⟩,
      ⟨some 6, none, [], .p (.mv (.t 82))⟩]) (
  .ret))))))))),
  83, [Sum.inl 6]⟩

theorem c45 : cFunc Try.prog quiet Try.f45 [[11, 12, 36], [11, 12], [11, 12, 36, 38], [11, 12, 36], [11, 12, 36, 50], [11, 12, 36], [11, 12, 69], [12]] = some s45 := by kernel_rfl

-- 46 calls [44, 45]
def s46 : SFunc := ⟨
  .seq (
    .region [
      ⟨some 6, none, [], .p (.mv (.c (.str [])))⟩,
      ⟨some 7, none, [], .p (.mv (.c (.int .i64 0)))⟩]) (
  .seq (
    .seq (
      .region [
        ⟨some 8, none, [], .p (.mv (.t 0))⟩,
        ⟨some 9, none, [], .p (.mv (.t 1))⟩,
        ⟨some 10, none, [], .call 4008 4 true (.f 44) [.t 8, .t 9]⟩,
        ⟨some 11, none, [], .p (.un .not (.t 10))⟩]) (
    .cond (.t 11) (
      .seq (
        .region [
          ⟨some 6, none, [], .p (.mv (.c (.str [])))⟩,
          ⟨some 7, none, [], .p (.mv (.c (.int .i64 7)))⟩]) (
      .ret)) (
      .skip))) (
  .seq (
    .region [
      ⟨some 12, none, [], .p (.mv (.t 0))⟩,
      ⟨some 13, none, [], .p (.mv (.t 1))⟩,
      ⟨some 14, none, [], .p (.mv (.t 2))⟩,
      ⟨some 15, none, [], .call 12012 4 true (.f 45) [.t 12, .t 13, .t 14]⟩,
      ⟨some 6, none, [], .p (.mv (.t 15))⟩,
      ⟨some 7, none, [], .p (.mv (.c (.int .i64 0)))⟩]) (
  .ret))),
  16, [Sum.inl 6, Sum.inl 7]⟩

theorem c46 : cFunc Try.prog quiet Try.f46 [] = some s46 := by kernel_rfl

-- 47 calls [57]
def s47 : SFunc := ⟨
  .seq (
    .region [
      ⟨some 2, none, [], .p (.mv (.c (.str [])))⟩]) (
  .seq (
    .region [
      ⟨some 3, none, [], .p (.mv (.t 0))⟩,
      ⟨some 4, none, [], .p (.mv (.t 0))⟩,
      ⟨some 5, none, [], .p (.lenV false (.t 4))⟩,
      ⟨some 6, none, [], .p (.bin .rem (.t 5) (.c (.int .i64 16)))⟩,
      ⟨some 7, none, [], .p (.bin .sub (.c (.int .i64 16)) (.t 6))⟩,
      ⟨some 8, none, [], .p (.bin .rem (.t 7) (.c (.int .i64 16)))⟩,
      ⟨some 9, none, [], .call 4024 4 true (.f 57) [.c (.str [0]), .t 8]⟩,
      ⟨some 10, none, [], .p (.bin .add (.t 3) (.t 9))⟩,
      ⟨some 2, none, [], .p (.mv (.t 10))⟩]) (
  .ret)),
  11, [Sum.inl 2]⟩

theorem c47 : cFunc Try.prog quiet Try.f47 [] = some s47 := by kernel_rfl

-- 48 calls [42]
abbrev k48_0 : List Nat := [3, 7, 8, 9]
abbrev a48_0 : List Nat := [3]
abbrev e48_0 (v3 v7 v8 v9 : AV) : Env := [.dead, .dead, .dead, v3, .dead, .dead, .dead, v7, v8, v9, .dead, .dead, .dead, .dead, .dead, .dead, .dead, .dead, .dead, .dead, .dead, .dead, .dead, .dead, .dead, .dead, .dead]
abbrev x48_0 (v3 : AV) : Env := [.dead, .dead, .dead, v3, .dead, .dead, .dead, .dead, .dead, .dead, .dead, .dead, .dead, .dead, .dead, .dead, .dead, .dead, .dead, .dead, .dead, .dead, .dead, .dead, .dead, .dead, .dead]
def s48_b0 : SCode :=
  .seq (
    .region [
      ⟨some 10, none, [], .p (.bin .lss (.t 9) (.t 8))⟩]) (
  .seq (
    .cond (.t 10) (
      .skip) (
      .exit 0)) (
  .seq (
    .block 1 (
      .seq (
        .region [
          ⟨some 11, none, [], .p (.iaddrS 1 (.t 7) (.t 9))⟩,
          ⟨some 12, none, [], .r (.load1 (.t 11))⟩,
          ⟨some 5, none, [], .p (.mv (.t 12))⟩]) (
      .seq (
        .region [
          ⟨some 13, none, [], .p (.mv (.t 5))⟩,
          ⟨some 14, none, [], .p (.lenV false (.t 13))⟩,
          ⟨some 15, none, [], .p (.conv .u64 (.t 14))⟩,
          ⟨some 6, none, [], .p (.mv (.t 15))⟩]) (
      .region [
        ⟨some 16, none, [], .p (.mv (.t 3))⟩,
        ⟨some 17, none, [], .p (.mv (.t 6))⟩,
        ⟨some 18, none, [], .p (.conv .u32 (.t 17))⟩,
        ⟨some 19, none, [], .p (.mv (.t 6))⟩,
        ⟨some 20, none, [], .p (.bin .shr (.t 19) (.c (u64 32#64)))⟩,
        ⟨some 21, none, [], .p (.conv .u32 (.t 20))⟩,
        ⟨some 22, none, [], .a 24024 (.buildS 1 2 [u32 0#32] [(0, 1, .t 18), (1, 1, .t 21)])⟩,
        ⟨some 23, none, [], .w (.append 24028 1 4 (.t 16) (.t 22))⟩,
        ⟨some 3, none, [], .p (.mv (.t 23))⟩])))) (
  .region [
    ⟨some 24, none, [], .p (.bin .add (.t 9) (.c (.int .i64 1)))⟩,
    ⟨some 9, none, [], .p (.mv (.t 24))⟩])))

def s48 : SFunc := ⟨
  .seq (
    .region [
      ⟨some 2, none, [], .p (.mv (.c (.str [])))⟩]) (
  .seq (
    .region [
      ⟨some 3, none, [], .p (.mv (.c (.slice none 0 0)))⟩]) (
  .seq (
    .seq (
      .region [
        ⟨some 7, none, [], .p (.mv (.t 0))⟩,
        ⟨some 8, none, [], .p (.lenV true (.t 7))⟩,
        ⟨some 9, none, [], .p (.mv (.c (.int .i64 0)))⟩]) (
    .block 0 (
      .loop k48_0 a48_0 s48_b0))) (
  .seq (
    .region [
      ⟨some 25, none, [], .p (.mv (.t 3))⟩,
      ⟨some 26, none, [], .call 32004 4 true (.f 42) [.t 25]⟩,
      ⟨some 2, none, [], .p (.mv (.t 26))⟩]) (
  .ret)))),
  27, [Sum.inl 2]⟩

theorem c48 : cFunc Try.prog quiet Try.f48 [[3, 7, 8, 9], [3]] = some s48 := by kernel_rfl

-- 49 calls [58, 59, 60]
abbrev k49_1 : List Nat := [12, 13, 15, 16]
abbrev a49_1 : List Nat := [15]
abbrev e49_1 (v12 v13 v15 v16 : AV) : Env := [.dead, .dead, .dead, .dead, .dead, .dead, .dead, .dead, .dead, .dead, .dead, .dead, v12, v13, .dead, v15, v16, .dead, .dead, .dead, .dead, .dead, .dead, .dead, .dead, .dead, .dead, .dead, .dead, .dead, .dead, .dead, .dead, .dead, .dead, .dead, .dead, .dead, .dead, .dead, .dead, .dead, .dead, .dead, .dead, .dead, .dead, .dead, .dead, .dead, .dead, .dead, .dead, .dead, .dead, .dead, .dead, .dead, .dead, .dead, .dead, .dead, .dead, .dead, .dead, .dead, .dead, .dead, .dead, .dead, .dead, .dead, .dead, .dead, .dead, .dead, .dead, .dead, .dead, .dead, .dead, .dead, .dead, .dead, .dead, .dead, .dead, .dead, .dead, .dead, .dead, .dead, .dead, .dead, .dead, .dead, .dead, .dead, .dead, .dead, .dead, .dead, .dead, .dead, .dead, .dead, .dead, .dead, .dead]
abbrev x49_1 (v15 : AV) : Env := [.dead, .dead, .dead, .dead, .dead, .dead, .dead, .dead, .dead, .dead, .dead, .dead, .dead, .dead, .dead, v15, .dead, .dead, .dead, .dead, .dead, .dead, .dead, .dead, .dead, .dead, .dead, .dead, .dead, .dead, .dead, .dead, .dead, .dead, .dead, .dead, .dead, .dead, .dead, .dead, .dead, .dead, .dead, .dead, .dead, .dead, .dead, .dead, .dead, .dead, .dead, .dead, .dead, .dead, .dead, .dead, .dead, .dead, .dead, .dead, .dead, .dead, .dead, .dead, .dead, .dead, .dead, .dead, .dead, .dead, .dead, .dead, .dead, .dead, .dead, .dead, .dead, .dead, .dead, .dead, .dead, .dead, .dead, .dead, .dead, .dead, .dead, .dead, .dead, .dead, .dead, .dead, .dead, .dead, .dead, .dead, .dead, .dead, .dead, .dead, .dead, .dead, .dead, .dead, .dead, .dead, .dead, .dead, .dead]
def s49_b1 : SCode :=
  .seq (
    .seq (
      .region [
        ⟨some 92, none, [], .p (.mv (.t 16))⟩,
        ⟨some 93, none, [], .p (.bin .lss (.t 92) (.c (.int .i64 16)))⟩]) (
    .cond (.t 93) (
      .skip) (
      .exit 2))) (
  .seq (
    .block 3 (
      .region [
        ⟨some 96, none, [], .p (.mv (.t 15))⟩,
        ⟨some 97, none, [], .p (.mv (.t 16))⟩,
        ⟨some 98, none, [], .p (.iaddrA 16 1 (.t 13) (.t 97))⟩,
        ⟨some 99, none, [], .r (.load1 (.t 98))⟩,
        ⟨some 100, none, [], .p (.mv (.t 16))⟩,
        ⟨some 101, none, [], .p (.iaddrA 16 1 (.t 12) (.t 100))⟩,
        ⟨some 102, none, [], .r (.load1 (.t 101))⟩,
        ⟨some 103, none, [], .p (.bin .add (.t 99) (.t 102))⟩,
        ⟨some 104, none, [], .a 88032 (.buildS 1 1 [u32 0#32] [(0, 1, .t 103)])⟩,
        ⟨some 105, none, [], .w (.append 88036 1 4 (.t 96) (.t 104))⟩,
        ⟨some 15, none, [], .p (.mv (.t 105))⟩])) (
  .region [
    ⟨some 94, none, [], .p (.mv (.t 16))⟩,
    ⟨some 95, none, [], .p (.bin .add (.t 94) (.c (.int .i64 1)))⟩,
    ⟨some 16, none, [], .p (.mv (.t 95))⟩]))

abbrev k49_0 : List Nat := [12, 13, 14]
abbrev a49_0 : List Nat := [12, 13]
abbrev e49_0 (v12 v13 v14 : AV) : Env := [.dead, .dead, .dead, .dead, .dead, .dead, .dead, .dead, .dead, .dead, .dead, .dead, v12, v13, v14, .dead, .dead, .dead, .dead, .dead, .dead, .dead, .dead, .dead, .dead, .dead, .dead, .dead, .dead, .dead, .dead, .dead, .dead, .dead, .dead, .dead, .dead, .dead, .dead, .dead, .dead, .dead, .dead, .dead, .dead, .dead, .dead, .dead, .dead, .dead, .dead, .dead, .dead, .dead, .dead, .dead, .dead, .dead, .dead, .dead, .dead, .dead, .dead, .dead, .dead, .dead, .dead, .dead, .dead, .dead, .dead, .dead, .dead, .dead, .dead, .dead, .dead, .dead, .dead, .dead, .dead, .dead, .dead, .dead, .dead, .dead, .dead, .dead, .dead, .dead, .dead, .dead, .dead, .dead, .dead, .dead, .dead, .dead, .dead, .dead, .dead, .dead, .dead, .dead, .dead, .dead, .dead, .dead, .dead]
abbrev x49_0 (v12 v13 : AV) : Env := [.dead, .dead, .dead, .dead, .dead, .dead, .dead, .dead, .dead, .dead, .dead, .dead, v12, v13, .dead, .dead, .dead, .dead, .dead, .dead, .dead, .dead, .dead, .dead, .dead, .dead, .dead, .dead, .dead, .dead, .dead, .dead, .dead, .dead, .dead, .dead, .dead, .dead, .dead, .dead, .dead, .dead, .dead, .dead, .dead, .dead, .dead, .dead, .dead, .dead, .dead, .dead, .dead, .dead, .dead, .dead, .dead, .dead, .dead, .dead, .dead, .dead, .dead, .dead, .dead, .dead, .dead, .dead, .dead, .dead, .dead, .dead, .dead, .dead, .dead, .dead, .dead, .dead, .dead, .dead, .dead, .dead, .dead, .dead, .dead, .dead, .dead, .dead, .dead, .dead, .dead, .dead, .dead, .dead, .dead, .dead, .dead, .dead, .dead, .dead, .dead, .dead, .dead, .dead, .dead, .dead, .dead, .dead, .dead]
def s49_b0 : SCode :=
  .seq (
    .seq (
      .region [
        ⟨some 72, none, [], .p (.mv (.t 14))⟩,
        ⟨some 73, none, [], .p (.bin .lss (.t 72) (.c (.int .i64 10)))⟩]) (
    .cond (.t 73) (
      .skip) (
      .exit 0))) (
  .seq (
    .block 1 (
      .seq (
        .region [
          ⟨some 76, none, [], .r (.loadN 16 (.t 13))⟩,
          ⟨some 77, none, [], .call 40004 4 true (.f 59) [.t 76, .c (.int .i64 0), .c (.int .i64 4), .c (.int .i64 8), .c (.int .i64 12)]⟩,
          ⟨none, none, [], .w (.storeN 16 (.t 13) (.t 77))⟩]) (
      .seq (
        .region [
          ⟨some 78, none, [], .r (.loadN 16 (.t 13))⟩,
          ⟨some 79, none, [], .call 44004 4 true (.f 59) [.t 78, .c (.int .i64 1), .c (.int .i64 5), .c (.int .i64 9), .c (.int .i64 13)]⟩,
          ⟨none, none, [], .w (.storeN 16 (.t 13) (.t 79))⟩]) (
      .seq (
        .region [
          ⟨some 80, none, [], .r (.loadN 16 (.t 13))⟩,
          ⟨some 81, none, [], .call 48004 4 true (.f 59) [.t 80, .c (.int .i64 2), .c (.int .i64 6), .c (.int .i64 10), .c (.int .i64 14)]⟩,
          ⟨none, none, [], .w (.storeN 16 (.t 13) (.t 81))⟩]) (
      .seq (
        .region [
          ⟨some 82, none, [], .r (.loadN 16 (.t 13))⟩,
          ⟨some 83, none, [], .call 52004 4 true (.f 59) [.t 82, .c (.int .i64 3), .c (.int .i64 7), .c (.int .i64 11), .c (.int .i64 15)]⟩,
          ⟨none, none, [], .w (.storeN 16 (.t 13) (.t 83))⟩]) (
      .seq (
        .region [
          ⟨some 84, none, [], .r (.loadN 16 (.t 13))⟩,
          ⟨some 85, none, [], .call 56004 4 true (.f 59) [.t 84, .c (.int .i64 0), .c (.int .i64 5), .c (.int .i64 10), .c (.int .i64 15)]⟩,
          ⟨none, none, [], .w (.storeN 16 (.t 13) (.t 85))⟩]) (
      .seq (
        .region [
          ⟨some 86, none, [], .r (.loadN 16 (.t 13))⟩,
          ⟨some 87, none, [], .call 60004 4 true (.f 59) [.t 86, .c (.int .i64 1), .c (.int .i64 6), .c (.int .i64 11), .c (.int .i64 12)]⟩,
          ⟨none, none, [], .w (.storeN 16 (.t 13) (.t 87))⟩]) (
      .seq (
        .region [
          ⟨some 88, none, [], .r (.loadN 16 (.t 13))⟩,
          ⟨some 89, none, [], .call 64004 4 true (.f 59) [.t 88, .c (.int .i64 2), .c (.int .i64 7), .c (.int .i64 8), .c (.int .i64 13)]⟩,
          ⟨none, none, [], .w (.storeN 16 (.t 13) (.t 89))⟩]) (
      .region [
        ⟨some 90, none, [], .r (.loadN 16 (.t 13))⟩,
        ⟨some 91, none, [], .call 68004 4 true (.f 59) [.t 90, .c (.int .i64 3), .c (.int .i64 4), .c (.int .i64 9), .c (.int .i64 14)]⟩,
        ⟨none, none, [], .w (.storeN 16 (.t 13) (.t 91))⟩]))))))))) (
  .region [
    ⟨some 74, none, [], .p (.mv (.t 14))⟩,
    ⟨some 75, none, [], .p (.bin .add (.t 74) (.c (.int .i64 1)))⟩,
    ⟨some 14, none, [], .p (.mv (.t 75))⟩]))

def s49 : SFunc := ⟨
  .seq (
    .region [
      ⟨some 6, none, [], .p (.mv (.c (.str [])))⟩,
      ⟨some 7, none, [], .p (.mv (.c (.int .i64 0)))⟩]) (
  .seq (
    .seq (
      .region [
        ⟨some 18, none, [], .p (.mv (.t 0))⟩,
        ⟨some 19, none, [], .p (.lenV false (.t 18))⟩,
        ⟨some 20, none, [], .p (.bin .neq (.t 19) (.c (.int .i64 32)))⟩,
        ⟨some 21, none, [], .p (.mv (.t 20))⟩,
        ⟨some 22, some (21, false), [], .p (.mv (.t 1))⟩,
        ⟨some 23, some (21, false), [], .p (.lenV false (.t 22))⟩,
        ⟨some 24, some (21, false), [], .p (.bin .neq (.t 23) (.c (.int .i64 12)))⟩,
        ⟨some 25, none, [], .p (.pick (.t 21) (.c (.bool true)) (.t 24))⟩]) (
    .cond (.t 25) (
      .seq (
        .region [
          ⟨some 6, none, [], .p (.mv (.c (.str [])))⟩,
          ⟨some 7, none, [], .p (.mv (.c (.int .i64 7)))⟩]) (
      .ret)) (
      .skip))) (
  .seq (
    .region [
      ⟨some 27, none, [], .p (.mv (.t 0))⟩,
      ⟨some 28, none, [], .call 12004 4 true (.f 58) [.t 27, .c (.bool false)]⟩,
      ⟨some 26, none, [], .p (.mv (.t 28))⟩,
      ⟨some 29, none, [], .p (.extract (.t 26) 0)⟩,
      ⟨some 30, none, [], .p (.extract (.t 26) 1)⟩,
      ⟨some 8, none, [], .p (.mv (.t 29))⟩,
      ⟨some 9, none, [], .p (.mv (.t 30))⟩]) (
  .seq (
    .region [
      ⟨some 32, none, [], .p (.mv (.t 1))⟩,
      ⟨some 33, none, [], .call 16004 4 true (.f 58) [.t 32, .c (.bool false)]⟩,
      ⟨some 31, none, [], .p (.mv (.t 33))⟩,
      ⟨some 34, none, [], .p (.extract (.t 31) 0)⟩,
      ⟨some 35, none, [], .p (.extract (.t 31) 1)⟩,
      ⟨some 10, none, [], .p (.mv (.t 34))⟩,
      ⟨some 11, none, [], .p (.mv (.t 35))⟩]) (
  .seq (
    .region [
      ⟨some 36, none, [], .p (.mv (.t 8))⟩,
      ⟨some 37, none, [], .p (.iaddrS 1 (.t 36) (.c (.int .i64 0)))⟩,
      ⟨some 38, none, [20140], .r (.load1 (.t 37))⟩,
      ⟨some 39, none, [], .p (.mv (.t 8))⟩,
      ⟨some 40, none, [], .p (.iaddrS 1 (.t 39) (.c (.int .i64 1)))⟩,
      ⟨some 41, none, [20140], .r (.load1 (.t 40))⟩,
      ⟨some 42, none, [], .p (.mv (.t 8))⟩,
      ⟨some 43, none, [], .p (.iaddrS 1 (.t 42) (.c (.int .i64 2)))⟩,
      ⟨some 44, none, [20140], .r (.load1 (.t 43))⟩,
      ⟨some 45, none, [], .p (.mv (.t 8))⟩,
      ⟨some 46, none, [], .p (.iaddrS 1 (.t 45) (.c (.int .i64 3)))⟩,
      ⟨some 47, none, [20140], .r (.load1 (.t 46))⟩,
      ⟨some 48, none, [], .p (.mv (.t 8))⟩,
      ⟨some 49, none, [], .p (.iaddrS 1 (.t 48) (.c (.int .i64 4)))⟩,
      ⟨some 50, none, [20140], .r (.load1 (.t 49))⟩,
      ⟨some 51, none, [], .p (.mv (.t 8))⟩,
      ⟨some 52, none, [], .p (.iaddrS 1 (.t 51) (.c (.int .i64 5)))⟩,
      ⟨some 53, none, [20140], .r (.load1 (.t 52))⟩,
      ⟨some 54, none, [], .p (.mv (.t 8))⟩,
      ⟨some 55, none, [], .p (.iaddrS 1 (.t 54) (.c (.int .i64 6)))⟩,
      ⟨some 56, none, [20140], .r (.load1 (.t 55))⟩,
      ⟨some 57, none, [], .p (.mv (.t 8))⟩,
      ⟨some 58, none, [], .p (.iaddrS 1 (.t 57) (.c (.int .i64 7)))⟩,
      ⟨some 59, none, [20140], .r (.load1 (.t 58))⟩,
      ⟨some 60, none, [], .p (.mv (.t 2))⟩,
      ⟨some 61, none, [], .p (.mv (.t 10))⟩,
      ⟨some 62, none, [], .p (.iaddrS 1 (.t 61) (.c (.int .i64 0)))⟩,
      ⟨some 63, none, [20140], .r (.load1 (.t 62))⟩,
      ⟨some 64, none, [], .p (.mv (.t 10))⟩,
      ⟨some 65, none, [], .p (.iaddrS 1 (.t 64) (.c (.int .i64 1)))⟩,
      ⟨some 66, none, [20140], .r (.load1 (.t 65))⟩,
      ⟨some 67, none, [], .p (.mv (.t 10))⟩,
      ⟨some 68, none, [], .p (.iaddrS 1 (.t 67) (.c (.int .i64 2)))⟩,
      ⟨some 69, none, [20140], .r (.load1 (.t 68))⟩,
      ⟨some 70, none, [], .p (.build [u32 0#32, u32 0#32, u32 0#32, u32 0#32, u32 0#32, u32 0#32, u32 0#32, u32 0#32, u32 0#32, u32 0#32, u32 0#32, u32 0#32, u32 0#32, u32 0#32, u32 0#32, u32 0#32] [(0, 1, .c (u32 1634760805#32)), (1, 1, .c (u32 857760878#32)), (2, 1, .c (u32 2036477234#32)), (3, 1, .c (u32 1797285236#32)), (4, 1, .t 38), (5, 1, .t 41), (6, 1, .t 44), (7, 1, .t 47), (8, 1, .t 50), (9, 1, .t 53), (10, 1, .t 56), (11, 1, .t 59), (12, 1, .t 60), (13, 1, .t 63), (14, 1, .t 66), (15, 1, .t 69)])⟩,
      ⟨some 12, none, [], .a 20140 (.alloc [u32 0#32, u32 0#32, u32 0#32, u32 0#32, u32 0#32, u32 0#32, u32 0#32, u32 0#32, u32 0#32, u32 0#32, u32 0#32, u32 0#32, u32 0#32, u32 0#32, u32 0#32, u32 0#32])⟩,
      ⟨none, none, [], .w (.storeN 16 (.t 12) (.t 70))⟩]) (
  .seq (
    .region [
      ⟨some 71, none, [], .r (.loadN 16 (.t 12))⟩,
      ⟨some 13, none, [], .a 24004 (.alloc [u32 0#32, u32 0#32, u32 0#32, u32 0#32, u32 0#32, u32 0#32, u32 0#32, u32 0#32, u32 0#32, u32 0#32, u32 0#32, u32 0#32, u32 0#32, u32 0#32, u32 0#32, u32 0#32])⟩,
      ⟨none, none, [], .w (.storeN 16 (.t 13) (.t 71))⟩]) (
  .seq (
    .seq (
      .region [
        ⟨some 14, none, [], .p (.mv (.c (.int .i64 0)))⟩]) (
    .block 0 (
      .loop k49_0 a49_0 s49_b0))) (
  .seq (
    .region [
      ⟨some 15, none, [], .p (.mv (.c (.slice none 0 0)))⟩]) (
  .seq (
    .seq (
      .region [
        ⟨some 16, none, [], .p (.mv (.c (.int .i64 0)))⟩]) (
    .block 2 (
      .loop k49_1 a49_1 s49_b1))) (
  .seq (
    .region [
      ⟨some 106, none, [], .p (.mv (.t 15))⟩,
      ⟨some 107, none, [], .call 92004 4 true (.f 60) [.t 106, .c (.bool false)]⟩,
      ⟨some 17, none, [], .p (.mv (.t 107))⟩]) (
  .seq (
    .region [
      ⟨some 108, none, [], .p (.mv (.t 17))⟩,
      ⟨some 6, none, [], .p (.mv (.t 108))⟩,
      ⟨some 7, none, [], .p (.mv (.c (.int .i64 0)))⟩]) (
  .ret))))))))))),
  109, [Sum.inl 6, Sum.inl 7]⟩

theorem c49 : cFunc Try.prog quiet Try.f49 [[12, 13, 14], [12, 13], [12, 13, 15, 16], [15]] = some s49 := by kernel_rfl

-- 50 calls [61]
abbrev k50_0 : List Nat := [0, 1, 5, 6]
abbrev a50_0 : List Nat := [5]
abbrev e50_0 (v0 v1 v5 v6 : AV) : Env := [v0, v1, .dead, .dead, .dead, v5, v6, .dead, .dead, .dead, .dead, .dead, .dead, .dead, .dead, .dead, .dead, .dead, .dead, .dead, .dead, .dead, .dead, .dead, .dead, .dead, .dead, .dead, .dead, .dead, .dead, .dead, .dead]
abbrev x50_0 (v5 : AV) : Env := [.dead, .dead, .dead, .dead, .dead, v5, .dead, .dead, .dead, .dead, .dead, .dead, .dead, .dead, .dead, .dead, .dead, .dead, .dead, .dead, .dead, .dead, .dead, .dead, .dead, .dead, .dead, .dead, .dead, .dead, .dead, .dead, .dead]
def s50_b0 : SCode :=
  .seq (
    .seq (
      .region [
        ⟨some 8, none, [], .p (.mv (.t 6))⟩,
        ⟨some 9, none, [], .p (.mv (.t 0))⟩,
        ⟨some 10, none, [], .p (.lenV false (.t 9))⟩,
        ⟨some 11, none, [], .p (.bin .lss (.t 8) (.t 10))⟩,
        ⟨some 12, none, [], .p (.mv (.t 11))⟩,
        ⟨some 13, some (12, true), [], .p (.mv (.t 6))⟩,
        ⟨some 14, some (12, true), [], .p (.mv (.t 1))⟩,
        ⟨some 15, some (12, true), [], .p (.lenV false (.t 14))⟩,
        ⟨some 16, some (12, true), [], .p (.bin .lss (.t 13) (.t 15))⟩,
        ⟨some 17, none, [], .p (.pick (.t 12) (.t 16) (.c (.bool false)))⟩]) (
    .cond (.t 17) (
      .skip) (
      .exit 0))) (
  .seq (
    .block 1 (
      .seq (
        .region [
          ⟨some 20, none, [], .p (.mv (.t 0))⟩,
          ⟨some 21, none, [], .p (.mv (.t 6))⟩,
          ⟨some 22, none, [], .p (.idxStr (.t 20) (.t 21))⟩,
          ⟨some 23, none, [], .p (.mv (.t 1))⟩,
          ⟨some 24, none, [], .p (.mv (.t 6))⟩,
          ⟨some 25, none, [], .p (.idxStr (.t 23) (.t 24))⟩,
          ⟨some 26, none, [], .call 20024 4 true (.f 61) [.t 22, .t 25]⟩,
          ⟨some 7, none, [], .p (.mv (.t 26))⟩]) (
      .region [
        ⟨some 27, none, [], .p (.mv (.t 5))⟩,
        ⟨some 28, none, [], .p (.mv (.t 7))⟩,
        ⟨some 29, none, [], .a 24008 (.buildS 1 1 [byteAV 0] [(0, 1, .t 28)])⟩,
        ⟨some 30, none, [], .w (.append 24012 1 1 (.t 27) (.t 29))⟩,
        ⟨some 5, none, [], .p (.mv (.t 30))⟩]))) (
  .region [
    ⟨some 18, none, [], .p (.mv (.t 6))⟩,
    ⟨some 19, none, [], .p (.bin .add (.t 18) (.c (.int .i64 1)))⟩,
    ⟨some 6, none, [], .p (.mv (.t 19))⟩]))

def s50 : SFunc := ⟨
  .seq (
    .region [
      ⟨some 4, none, [], .p (.mv (.c (.str [])))⟩]) (
  .seq (
    .region [
      ⟨some 5, none, [], .p (.mv (.c (.slice none 0 0)))⟩]) (
  .seq (
    .seq (
      .region [
        ⟨some 6, none, [], .p (.mv (.c (.int .i64 0)))⟩]) (
    .block 0 (
      .loop k50_0 a50_0 s50_b0))) (
  .seq (
    .region [
      ⟨some 31, none, [], .p (.mv (.t 5))⟩,
      ⟨some 32, none, [], .r (.toStr (.t 31))⟩,
      ⟨some 4, none, [], .p (.mv (.t 32))⟩]) (
  .ret)))),
  33, [Sum.inl 4]⟩

theorem c50 : cFunc Try.prog quiet Try.f50 [[0, 1, 5, 6], [5]] = some s50 := by kernel_rfl

-- 51 calls []
abbrev k51_0 : List Nat := [0]
abbrev a51_0 : List Nat := [0]
abbrev e51_0 (v0 : AV) : Env := [v0, .dead, .dead, .dead, .dead, .dead, .dead, .dead, .dead, .dead, .dead]
abbrev x51_0 (v0 : AV) : Env := [v0, .dead, .dead, .dead, .dead, .dead, .dead, .dead, .dead, .dead, .dead]
def s51_b0 : SCode :=
  .seq (
    .seq (
      .region [
        ⟨some 3, none, [], .p (.mv (.t 0))⟩,
        ⟨some 4, none, [], .p (.lenV true (.t 3))⟩,
        ⟨some 5, none, [], .p (.bin .rem (.t 4) (.c (.int .i64 16)))⟩,
        ⟨some 6, none, [], .p (.bin .neq (.t 5) (.c (.int .i64 0)))⟩]) (
    .cond (.t 6) (
      .skip) (
      .exit 0))) (
  .block 1 (
    .region [
      ⟨some 7, none, [], .p (.mv (.t 0))⟩,
      ⟨some 8, none, [], .a 8004 (.buildS 1 1 [byteAV 0] [(0, 1, .c (byteAV 0))])⟩,
      ⟨some 9, none, [], .w (.append 8008 1 1 (.t 7) (.t 8))⟩,
      ⟨some 0, none, [], .p (.mv (.t 9))⟩]))

def s51 : SFunc := ⟨
  .seq (
    .region [
      ⟨some 2, none, [], .p (.mv (.c (.slice none 0 0)))⟩]) (
  .seq (
    .block 0 (
      .loop k51_0 a51_0 s51_b0)) (
  .seq (
    .region [
      ⟨some 10, none, [], .p (.mv (.t 0))⟩,
      ⟨some 2, none, [], .p (.mv (.t 10))⟩]) (
  .ret))),
  11, [Sum.inl 2]⟩

theorem c51 : cFunc Try.prog quiet Try.f51 [[0], [0]] = some s51 := by kernel_rfl

-- 52 calls []
abbrev k52_0 : List Nat := [0, 1, 5]
abbrev a52_0 : List Nat := [0]
abbrev e52_0 (v0 v1 v5 : AV) : Env := [v0, v1, .dead, .dead, .dead, v5, .dead, .dead, .dead, .dead, .dead, .dead, .dead, .dead, .dead, .dead, .dead, .dead, .dead]
abbrev x52_0 (v0 : AV) : Env := [v0, .dead, .dead, .dead, .dead, .dead, .dead, .dead, .dead, .dead, .dead, .dead, .dead, .dead, .dead, .dead, .dead, .dead, .dead]
def s52_b0 : SCode :=
  .seq (
    .seq (
      .region [
        ⟨some 6, none, [], .p (.mv (.t 5))⟩,
        ⟨some 7, none, [], .p (.bin .lss (.t 6) (.c (.int .i64 8)))⟩]) (
    .cond (.t 7) (
      .skip) (
      .exit 0))) (
  .seq (
    .block 1 (
      .seq (
        .region [
          ⟨some 10, none, [], .p (.mv (.t 0))⟩,
          ⟨some 11, none, [], .p (.mv (.t 1))⟩,
          ⟨some 12, none, [], .p (.bin .rem (.t 11) (.c (.int .i64 256)))⟩,
          ⟨some 13, none, [], .p (.conv .u8 (.t 12))⟩,
          ⟨some 14, none, [], .a 16016 (.buildS 1 1 [byteAV 0] [(0, 1, .t 13)])⟩,
          ⟨some 15, none, [], .w (.append 16020 1 1 (.t 10) (.t 14))⟩,
          ⟨some 0, none, [], .p (.mv (.t 15))⟩]) (
      .region [
        ⟨some 16, none, [], .p (.mv (.t 1))⟩,
        ⟨some 17, none, [], .p (.bin .quo (.t 16) (.c (.int .i64 256)))⟩,
        ⟨some 1, none, [], .p (.mv (.t 17))⟩]))) (
  .region [
    ⟨some 8, none, [], .p (.mv (.t 5))⟩,
    ⟨some 9, none, [], .p (.bin .add (.t 8) (.c (.int .i64 1)))⟩,
    ⟨some 5, none, [], .p (.mv (.t 9))⟩]))

def s52 : SFunc := ⟨
  .seq (
    .region [
      ⟨some 4, none, [], .p (.mv (.c (.slice none 0 0)))⟩]) (
  .seq (
    .seq (
      .region [
        ⟨some 5, none, [], .p (.mv (.c (.int .i64 0)))⟩]) (
    .block 0 (
      .loop k52_0 a52_0 s52_b0))) (
  .seq (
    .region [
      ⟨some 18, none, [], .p (.mv (.t 0))⟩,
      ⟨some 4, none, [], .p (.mv (.t 18))⟩]) (
  .ret))),
  19, [Sum.inl 4]⟩

theorem c52 : cFunc Try.prog quiet Try.f52 [[0, 1, 5], [0]] = some s52 := by kernel_rfl

-- 53 calls []
abbrev k53_0 : List Nat := [0, 1, 6, 17, 18]
abbrev a53_0 : List Nat := [6]
abbrev e53_0 (v0 v1 v6 v17 v18 : AV) : Env := [v0, v1, .dead, .dead, .dead, .dead, v6, .dead, .dead, .dead, .dead, .dead, .dead, .dead, .dead, .dead, .dead, v17, v18, .dead, .dead, .dead, .dead, .dead, .dead, .dead, .dead, .dead, .dead, .dead, .dead, .dead, .dead, .dead, .dead, .dead, .dead, .dead, .dead, .dead, .dead, .dead, .dead, .dead, .dead, .dead, .dead, .dead, .dead, .dead, .dead]
abbrev x53_0 (v6 : AV) : Env := [.dead, .dead, .dead, .dead, .dead, .dead, v6, .dead, .dead, .dead, .dead, .dead, .dead, .dead, .dead, .dead, .dead, .dead, .dead, .dead, .dead, .dead, .dead, .dead, .dead, .dead, .dead, .dead, .dead, .dead, .dead, .dead, .dead, .dead, .dead, .dead, .dead, .dead, .dead, .dead, .dead, .dead, .dead, .dead, .dead, .dead, .dead, .dead, .dead, .dead, .dead]
def s53_b0 : SCode :=
  .seq (
    .region [
      ⟨some 19, none, [], .p (.bin .lss (.t 18) (.t 17))⟩]) (
  .seq (
    .cond (.t 19) (
      .skip) (
      .exit 0)) (
  .seq (
    .block 1 (
      .seq (
        .region [
          ⟨some 20, none, [], .p (.mv (.t 18))⟩,
          ⟨some 7, none, [], .p (.mv (.t 20))⟩]) (
      .region [
        ⟨some 21, none, [], .p (.mv (.t 6))⟩,
        ⟨some 22, none, [], .p (.mv (.t 7))⟩,
        ⟨some 23, none, [], .p (.mv (.t 1))⟩,
        ⟨some 24, none, [], .p (.mv (.t 0))⟩,
        ⟨some 25, none, [], .p (.mv (.t 7))⟩,
        ⟨some 26, none, [], .p (.bin .mul (.c (.int .i64 4)) (.t 25))⟩,
        ⟨some 27, none, [], .p (.idxStr (.t 24) (.t 26))⟩,
        ⟨some 28, none, [], .p (.conv .u32 (.t 27))⟩,
        ⟨some 29, none, [], .p (.mv (.t 0))⟩,
        ⟨some 30, none, [], .p (.mv (.t 7))⟩,
        ⟨some 31, none, [], .p (.bin .mul (.c (.int .i64 4)) (.t 30))⟩,
        ⟨some 32, none, [], .p (.bin .add (.t 31) (.c (.int .i64 1)))⟩,
        ⟨some 33, none, [], .p (.idxStr (.t 29) (.t 32))⟩,
        ⟨some 34, none, [], .p (.conv .u32 (.t 33))⟩,
        ⟨some 35, none, [], .p (.mv (.t 0))⟩,
        ⟨some 36, none, [], .p (.mv (.t 7))⟩,
        ⟨some 37, none, [], .p (.bin .mul (.c (.int .i64 4)) (.t 36))⟩,
        ⟨some 38, none, [], .p (.bin .add (.t 37) (.c (.int .i64 2)))⟩,
        ⟨some 39, none, [], .p (.idxStr (.t 35) (.t 38))⟩,
        ⟨some 40, none, [], .p (.conv .u32 (.t 39))⟩,
        ⟨some 41, none, [], .p (.mv (.t 0))⟩,
        ⟨some 42, none, [], .p (.mv (.t 7))⟩,
        ⟨some 43, none, [], .p (.bin .mul (.c (.int .i64 4)) (.t 42))⟩,
        ⟨some 44, none, [], .p (.bin .add (.t 43) (.c (.int .i64 3)))⟩,
        ⟨some 45, none, [], .p (.idxStr (.t 41) (.t 44))⟩,
        ⟨some 46, none, [], .p (.conv .u32 (.t 45))⟩,
        ⟨some 47, none, [], .call 28104 4 true (.t 23) [.t 28, .t 34, .t 40, .t 46]⟩,
        ⟨some 48, none, [], .p (.iaddrS 1 (.t 21) (.t 22))⟩,
        ⟨none, none, [], .w (.store1 (.t 48) (.t 47))⟩]))) (
  .region [
    ⟨some 49, none, [], .p (.bin .add (.t 18) (.c (.int .i64 1)))⟩,
    ⟨some 18, none, [], .p (.mv (.t 49))⟩])))

def s53 : SFunc := ⟨
  .seq (
    .region [
      ⟨some 4, none, [], .p (.mv (.c (.slice none 0 0)))⟩,
      ⟨some 5, none, [], .p (.mv (.c (.int .i64 0)))⟩]) (
  .seq (
    .seq (
      .region [
        ⟨some 8, none, [], .p (.mv (.t 0))⟩,
        ⟨some 9, none, [], .p (.lenV false (.t 8))⟩,
        ⟨some 10, none, [], .p (.bin .rem (.t 9) (.c (.int .i64 4)))⟩,
        ⟨some 11, none, [], .p (.bin .neq (.t 10) (.c (.int .i64 0)))⟩]) (
    .cond (.t 11) (
      .seq (
        .region [
          ⟨some 4, none, [], .p (.mv (.c (.slice none 0 0)))⟩,
          ⟨some 5, none, [], .p (.mv (.c (.int .i64 7)))⟩]) (
      .ret)) (
      .skip))) (
  .seq (
    .region [
      ⟨some 12, none, [], .p (.mv (.t 0))⟩,
      ⟨some 13, none, [], .p (.lenV false (.t 12))⟩,
      ⟨some 14, none, [], .p (.bin .quo (.t 13) (.c (.int .i64 4)))⟩,
      ⟨some 15, none, [], .a 12012 (.mkSlice 1 4 [u32 0#32] (.t 14) (.t 14))⟩,
      ⟨some 6, none, [], .p (.mv (.t 15))⟩]) (
  .seq (
    .seq (
      .region [
        ⟨some 16, none, [], .p (.mv (.t 6))⟩,
        ⟨some 17, none, [], .p (.lenV true (.t 16))⟩,
        ⟨some 18, none, [], .p (.mv (.c (.int .i64 0)))⟩]) (
    .block 0 (
      .loop k53_0 a53_0 s53_b0))) (
  .seq (
    .region [
      ⟨some 50, none, [], .p (.mv (.t 6))⟩,
      ⟨some 4, none, [], .p (.mv (.t 50))⟩,
      ⟨some 5, none, [], .p (.mv (.c (.int .i64 0)))⟩]) (
  .ret))))),
  51, [Sum.inl 4, Sum.inl 5]⟩

theorem c53 : cFunc Try.prog quiet Try.f53 [[0, 1, 6, 17, 18], [6]] = some s53 := by kernel_rfl

-- 54 calls []
def s54 : SFunc := ⟨
  .seq (
    .region [
      ⟨some 8, none, [], .p (.mv (.c (u32 0#32)))⟩]) (
  .seq (
    .region [
      ⟨some 9, none, [], .p (.mv (.t 0))⟩,
      ⟨some 10, none, [], .p (.mv (.t 1))⟩,
      ⟨some 11, none, [], .p (.bin .shl (.t 10) (.c (u64 8#64)))⟩,
      ⟨some 12, none, [], .p (.bin .or (.t 9) (.t 11))⟩,
      ⟨some 13, none, [], .p (.mv (.t 2))⟩,
      ⟨some 14, none, [], .p (.bin .shl (.t 13) (.c (u64 16#64)))⟩,
      ⟨some 15, none, [], .p (.bin .or (.t 12) (.t 14))⟩,
      ⟨some 16, none, [], .p (.mv (.t 3))⟩,
      ⟨some 17, none, [], .p (.bin .shl (.t 16) (.c (u64 24#64)))⟩,
      ⟨some 18, none, [], .p (.bin .or (.t 15) (.t 17))⟩,
      ⟨some 8, none, [], .p (.mv (.t 18))⟩]) (
  .ret)),
  19, [Sum.inl 8]⟩

theorem c54 : cFunc Try.prog quiet Try.f54 [] = some s54 := by kernel_rfl

-- 55 calls []
abbrev k55_0 : List Nat := [1, 3]
abbrev a55_0 : List Nat := [1, 2]
abbrev e55_0 (v1 v3 : AV) : Env := [.dead, v1, .dead, v3, .dead, .dead, .dead, .dead, .dead, .dead, .dead, .dead, .dead, .dead, .dead, .dead, .dead, .dead, .dead, .dead, .dead]
abbrev x55_0 (v1 v2 : AV) : Env := [.dead, v1, v2, .dead, .dead, .dead, .dead, .dead, .dead, .dead, .dead, .dead, .dead, .dead, .dead, .dead, .dead, .dead, .dead, .dead, .dead]
def s55_b0 : SCode :=
  .seq (
    .seq (
      .region [
        ⟨some 10, none, [], .p (.mv (.t 3))⟩,
        ⟨some 11, none, [], .p (.bin .geq (.t 10) (.c (.int .i64 1)))⟩]) (
    .cond (.t 11) (
      .skip) (
      .exit 0))) (
  .seq (
    .block 1 (
      .seq (
        .region [
          ⟨some 14, none, [], .p (.mv (.t 3))⟩,
          ⟨some 15, none, [], .p (.iaddrA 17 1 (.t 1) (.t 14))⟩,
          ⟨some 16, none, [], .r (.load1 (.t 15))⟩,
          ⟨some 17, none, [], .p (.bin .neq (.t 16) (.c (.int .i64 255)))⟩]) (
      .cond (.t 17) (
        .seq (
          .region [
            ⟨some 2, none, [], .p (.mv (.c (.bool true)))⟩]) (
        .ret)) (
        .skip)))) (
  .region [
    ⟨some 12, none, [], .p (.mv (.t 3))⟩,
    ⟨some 13, none, [], .p (.bin .sub (.t 12) (.c (.int .i64 1)))⟩,
    ⟨some 3, none, [], .p (.mv (.t 13))⟩]))

def s55 : SFunc := ⟨
  .seq (
    .region [
      ⟨some 1, none, [], .a 0 (.box (.t 0))⟩,
      ⟨some 2, none, [], .p (.mv (.c (.bool false)))⟩]) (
  .seq (
    .seq (
      .region [
        ⟨some 4, none, [], .p (.iaddrA 17 1 (.t 1) (.c (.int .i64 16)))⟩,
        ⟨some 5, none, [], .r (.load1 (.t 4))⟩,
        ⟨some 6, none, [], .p (.bin .neq (.t 5) (.c (.int .i64 3)))⟩]) (
    .cond (.t 6) (
      .seq (
        .region [
          ⟨some 7, none, [], .p (.iaddrA 17 1 (.t 1) (.c (.int .i64 16)))⟩,
          ⟨some 8, none, [], .r (.load1 (.t 7))⟩,
          ⟨some 9, none, [], .p (.bin .lss (.t 8) (.c (.int .i64 3)))⟩,
          ⟨some 2, none, [], .p (.mv (.t 9))⟩]) (
      .ret)) (
      .skip))) (
  .seq (
    .seq (
      .region [
        ⟨some 3, none, [], .p (.mv (.c (.int .i64 15)))⟩]) (
    .block 0 (
      .loop k55_0 a55_0 s55_b0))) (
  .seq (
    .region [
      ⟨some 18, none, [], .p (.iaddrA 17 1 (.t 1) (.c (.int .i64 0)))⟩,
      ⟨some 19, none, [], .r (.load1 (.t 18))⟩,
      ⟨some 20, none, [], .p (.bin .lss (.t 19) (.c (.int .i64 251)))⟩,
      ⟨some 2, none, [], .p (.mv (.t 20))⟩]) (
  .ret)))),
  21, [Sum.inl 2]⟩

theorem c55 : cFunc Try.prog quiet Try.f55 [[1, 3], [1, 2]] = some s55 := by kernel_rfl

-- 56 calls [62]
def s56 : SFunc := ⟨
  .region [
    ⟨some 11, none, [], .p (.mv (.t 0))⟩,
    ⟨some 12, none, [], .p (.mv (.t 1))⟩,
    ⟨some 13, none, [], .p (.mv (.t 0))⟩,
    ⟨some 14, none, [], .p (.mv (.t 2))⟩,
    ⟨some 15, none, [], .p (.mv (.t 0))⟩,
    ⟨some 16, none, [], .p (.mv (.t 3))⟩,
    ⟨some 17, none, [], .p (.mv (.t 0))⟩,
    ⟨some 18, none, [], .p (.mv (.t 4))⟩,
    ⟨some 19, none, [], .p (.mv (.t 0))⟩,
    ⟨some 20, none, [], .p (.mv (.t 1))⟩,
    ⟨some 21, none, [], .p (.nilChk (.t 19))⟩,
    ⟨some 22, none, [], .p (.iaddrA 16 1 (.t 21) (.t 20))⟩,
    ⟨some 23, none, [], .r (.load1 (.t 22))⟩,
    ⟨some 24, none, [], .p (.mv (.t 0))⟩,
    ⟨some 25, none, [], .p (.mv (.t 2))⟩,
    ⟨some 26, none, [], .p (.nilChk (.t 24))⟩,
    ⟨some 27, none, [], .p (.iaddrA 16 1 (.t 26) (.t 25))⟩,
    ⟨some 28, none, [], .r (.load1 (.t 27))⟩,
    ⟨some 29, none, [], .p (.mv (.t 0))⟩,
    ⟨some 30, none, [], .p (.mv (.t 3))⟩,
    ⟨some 31, none, [], .p (.nilChk (.t 29))⟩,
    ⟨some 32, none, [], .p (.iaddrA 16 1 (.t 31) (.t 30))⟩,
    ⟨some 33, none, [], .r (.load1 (.t 32))⟩,
    ⟨some 34, none, [], .p (.mv (.t 0))⟩,
    ⟨some 35, none, [], .p (.mv (.t 4))⟩,
    ⟨some 36, none, [], .p (.nilChk (.t 34))⟩,
    ⟨some 37, none, [], .p (.iaddrA 16 1 (.t 36) (.t 35))⟩,
    ⟨some 38, none, [], .r (.load1 (.t 37))⟩,
    ⟨some 39, none, [], .call 112 4 true (.f 62) [.t 23, .t 28, .t 33, .t 38]⟩,
    ⟨some 10, none, [], .p (.mv (.t 39))⟩,
    ⟨some 40, none, [], .p (.extract (.t 10) 0)⟩,
    ⟨some 41, none, [], .p (.extract (.t 10) 1)⟩,
    ⟨some 42, none, [], .p (.extract (.t 10) 2)⟩,
    ⟨some 43, none, [], .p (.extract (.t 10) 3)⟩,
    ⟨some 44, none, [], .p (.nilChk (.t 11))⟩,
    ⟨some 45, none, [], .p (.iaddrA 16 1 (.t 44) (.t 12))⟩,
    ⟨none, none, [], .w (.store1 (.t 45) (.t 40))⟩,
    ⟨some 46, none, [], .p (.nilChk (.t 13))⟩,
    ⟨some 47, none, [], .p (.iaddrA 16 1 (.t 46) (.t 14))⟩,
    ⟨none, none, [], .w (.store1 (.t 47) (.t 41))⟩,
    ⟨some 48, none, [], .p (.nilChk (.t 15))⟩,
    ⟨some 49, none, [], .p (.iaddrA 16 1 (.t 48) (.t 16))⟩,
    ⟨none, none, [], .w (.store1 (.t 49) (.t 42))⟩,
    ⟨some 50, none, [], .p (.nilChk (.t 17))⟩,
    ⟨some 51, none, [], .p (.iaddrA 16 1 (.t 50) (.t 18))⟩,
    ⟨none, none, [], .w (.store1 (.t 51) (.t 43))⟩],
  52, []⟩

theorem c56 : cFunc Try.prog quiet Try.f56 [] = some s56 := by kernel_rfl

-- 58 calls []
abbrev k58_1 : List Nat := [0, 1, 6, 7, 8, 9]
abbrev a58_1 : List Nat := [0, 1, 6, 7, 8]
abbrev e58_1 (v0 v1 v6 v7 v8 v9 : AV) : Env := [v0, v1, .dead, .dead, .dead, .dead, v6, v7, v8, v9, .dead, .dead, .dead, .dead, .dead, .dead, .dead, .dead, .dead, .dead, .dead, .dead, .dead, .dead, .dead, .dead, .dead, .dead, .dead, .dead, .dead, .dead, .dead, .dead, .dead, .dead, .dead, .dead, .dead, .dead, .dead, .dead, .dead, .dead, .dead]
abbrev x58_1 (v0 v1 v6 v7 v8 : AV) : Env := [v0, v1, .dead, .dead, .dead, .dead, v6, v7, v8, .dead, .dead, .dead, .dead, .dead, .dead, .dead, .dead, .dead, .dead, .dead, .dead, .dead, .dead, .dead, .dead, .dead, .dead, .dead, .dead, .dead, .dead, .dead, .dead, .dead, .dead, .dead, .dead, .dead, .dead, .dead, .dead, .dead, .dead, .dead, .dead]
def s58_b1 : SCode :=
  .seq (
    .seq (
      .region [
        ⟨some 21, none, [], .p (.mv (.t 9))⟩,
        ⟨some 22, none, [], .p (.bin .lss (.t 21) (.c (.int .i64 4)))⟩]) (
    .cond (.t 22) (
      .skip) (
      .exit 2))) (
  .seq (
    .block 3 (
      .seq (
        .region [
          ⟨some 25, none, [], .p (.mv (.t 7))⟩,
          ⟨some 26, none, [], .p (.bin .add (.t 25) (.c (.int .i64 3)))⟩,
          ⟨some 27, none, [], .p (.mv (.t 9))⟩,
          ⟨some 28, none, [], .p (.bin .sub (.t 26) (.t 27))⟩,
          ⟨some 10, none, [], .p (.mv (.t 28))⟩]) (
      .seq (
        .seq (
          .region [
            ⟨some 29, none, [], .p (.mv (.t 1))⟩]) (
        .cond (.t 29) (
          .region [
            ⟨some 30, none, [], .p (.mv (.t 7))⟩,
            ⟨some 31, none, [], .p (.mv (.t 9))⟩,
            ⟨some 32, none, [], .p (.bin .add (.t 30) (.t 31))⟩,
            ⟨some 10, none, [], .p (.mv (.t 32))⟩]) (
          .skip))) (
      .region [
        ⟨some 33, none, [], .p (.mv (.t 8))⟩,
        ⟨some 34, none, [], .p (.bin .mul (.c (u32 256#32)) (.t 33))⟩,
        ⟨some 35, none, [], .p (.mv (.t 0))⟩,
        ⟨some 36, none, [], .p (.mv (.t 10))⟩,
        ⟨some 37, none, [], .p (.idxStr (.t 35) (.t 36))⟩,
        ⟨some 38, none, [], .p (.conv .u32 (.t 37))⟩,
        ⟨some 39, none, [], .p (.bin .add (.t 34) (.t 38))⟩,
        ⟨some 8, none, [], .p (.mv (.t 39))⟩])))) (
  .region [
    ⟨some 23, none, [], .p (.mv (.t 9))⟩,
    ⟨some 24, none, [], .p (.bin .add (.t 23) (.c (.int .i64 1)))⟩,
    ⟨some 9, none, [], .p (.mv (.t 24))⟩]))

abbrev k58_0 : List Nat := [0, 1, 6, 7]
abbrev a58_0 : List Nat := [6]
abbrev e58_0 (v0 v1 v6 v7 : AV) : Env := [v0, v1, .dead, .dead, .dead, .dead, v6, v7, .dead, .dead, .dead, .dead, .dead, .dead, .dead, .dead, .dead, .dead, .dead, .dead, .dead, .dead, .dead, .dead, .dead, .dead, .dead, .dead, .dead, .dead, .dead, .dead, .dead, .dead, .dead, .dead, .dead, .dead, .dead, .dead, .dead, .dead, .dead, .dead, .dead]
abbrev x58_0 (v6 : AV) : Env := [.dead, .dead, .dead, .dead, .dead, .dead, v6, .dead, .dead, .dead, .dead, .dead, .dead, .dead, .dead, .dead, .dead, .dead, .dead, .dead, .dead, .dead, .dead, .dead, .dead, .dead, .dead, .dead, .dead, .dead, .dead, .dead, .dead, .dead, .dead, .dead, .dead, .dead, .dead, .dead, .dead, .dead, .dead, .dead, .dead]
def s58_b0 : SCode :=
  .seq (
    .seq (
      .region [
        ⟨some 15, none, [], .p (.mv (.t 7))⟩,
        ⟨some 16, none, [], .p (.mv (.t 0))⟩,
        ⟨some 17, none, [], .p (.lenV false (.t 16))⟩,
        ⟨some 18, none, [], .p (.bin .lss (.t 15) (.t 17))⟩]) (
    .cond (.t 18) (
      .skip) (
      .exit 0))) (
  .seq (
    .block 1 (
      .seq (
        .region [
          ⟨some 8, none, [], .p (.mv (.c (u32 0#32)))⟩]) (
      .seq (
        .seq (
          .region [
            ⟨some 9, none, [], .p (.mv (.c (.int .i64 0)))⟩]) (
        .block 2 (
          .loop k58_1 a58_1 s58_b1))) (
      .region [
        ⟨some 40, none, [], .p (.mv (.t 6))⟩,
        ⟨some 41, none, [], .p (.mv (.t 8))⟩,
        ⟨some 42, none, [], .a 60008 (.buildS 1 1 [u32 0#32] [(0, 1, .t 41)])⟩,
        ⟨some 43, none, [], .w (.append 60012 1 4 (.t 40) (.t 42))⟩,
        ⟨some 6, none, [], .p (.mv (.t 43))⟩])))) (
  .region [
    ⟨some 19, none, [], .p (.mv (.t 7))⟩,
    ⟨some 20, none, [], .p (.bin .add (.t 19) (.c (.int .i64 4)))⟩,
    ⟨some 7, none, [], .p (.mv (.t 20))⟩]))

def s58 : SFunc := ⟨
  .seq (
    .region [
      ⟨some 4, none, [], .p (.mv (.c (.slice none 0 0)))⟩,
      ⟨some 5, none, [], .p (.mv (.c (.int .i64 0)))⟩]) (
  .seq (
    .seq (
      .region [
        ⟨some 11, none, [], .p (.mv (.t 0))⟩,
        ⟨some 12, none, [], .p (.lenV false (.t 11))⟩,
        ⟨some 13, none, [], .p (.bin .rem (.t 12) (.c (.int .i64 4)))⟩,
        ⟨some 14, none, [], .p (.bin .neq (.t 13) (.c (.int .i64 0)))⟩]) (
    .cond (.t 14) (
      .seq (
        .region [
          ⟨some 4, none, [], .p (.mv (.c (.slice none 0 0)))⟩,
          ⟨some 5, none, [], .p (.mv (.c (.int .i64 7)))⟩]) (
      .ret)) (
      .skip))) (
  .seq (
    .region [
      ⟨some 6, none, [], .p (.mv (.c (.slice none 0 0)))⟩]) (
  .seq (
    .seq (
      .region [
        ⟨some 7, none, [], .p (.mv (.c (.int .i64 0)))⟩]) (
    .block 0 (
      .loop k58_0 a58_0 s58_b0))) (
  .seq (
    .region [
      ⟨some 44, none, [], .p (.mv (.t 6))⟩,
      ⟨some 4, none, [], .p (.mv (.t 44))⟩,
      ⟨some 5, none, [], .p (.mv (.c (.int .i64 0)))⟩]) (
  .ret))))),
  45, [Sum.inl 4, Sum.inl 5]⟩

theorem c58 : cFunc Try.prog quiet Try.f58 [[0, 1, 6, 7], [6], [0, 1, 6, 7, 8, 9], [0, 1, 6, 7, 8]] = some s58 := by kernel_rfl

-- 59 calls [69]
def s59 : SFunc := ⟨
  .seq (
    .region [
      ⟨some 5, none, [], .a 0 (.box (.t 0))⟩,
      ⟨some 10, none, [], .a 4 (.alloc [u32 0#32, u32 0#32, u32 0#32, u32 0#32, u32 0#32, u32 0#32, u32 0#32, u32 0#32, u32 0#32, u32 0#32, u32 0#32, u32 0#32, u32 0#32, u32 0#32, u32 0#32, u32 0#32])⟩]) (
  .seq (
    .region [
      ⟨some 12, none, [], .p (.mv (.t 1))⟩,
      ⟨some 13, none, [], .p (.iaddrA 16 1 (.t 5) (.t 12))⟩,
      ⟨some 14, none, [4052], .r (.load1 (.t 13))⟩,
      ⟨some 15, none, [], .p (.mv (.t 2))⟩,
      ⟨some 16, none, [], .p (.iaddrA 16 1 (.t 5) (.t 15))⟩,
      ⟨some 17, none, [4052], .r (.load1 (.t 16))⟩,
      ⟨some 18, none, [], .p (.mv (.t 3))⟩,
      ⟨some 19, none, [], .p (.iaddrA 16 1 (.t 5) (.t 18))⟩,
      ⟨some 20, none, [4052], .r (.load1 (.t 19))⟩,
      ⟨some 21, none, [], .p (.mv (.t 4))⟩,
      ⟨some 22, none, [], .p (.iaddrA 16 1 (.t 5) (.t 21))⟩,
      ⟨some 23, none, [4052], .r (.load1 (.t 22))⟩,
      ⟨some 24, none, [4052], .call 4048 4 true (.f 69) [.t 14, .t 17, .t 20, .t 23]⟩,
      ⟨some 11, none, [4048, 4049, 4050, 4051], .a 4052 (.alloc [u32 0#32, u32 0#32, u32 0#32, u32 0#32])⟩,
      ⟨none, none, [], .w (.storeN 4 (.t 11) (.t 24))⟩]) (
  .seq (
    .region [
      ⟨some 25, none, [], .p (.mv (.t 1))⟩,
      ⟨some 26, none, [], .p (.iaddrA 4 1 (.t 11) (.c (.int .i64 0)))⟩,
      ⟨some 27, none, [], .r (.load1 (.t 26))⟩,
      ⟨some 28, none, [], .p (.iaddrA 16 1 (.t 5) (.t 25))⟩,
      ⟨none, none, [], .w (.store1 (.t 28) (.t 27))⟩]) (
  .seq (
    .region [
      ⟨some 29, none, [], .p (.mv (.t 2))⟩,
      ⟨some 30, none, [], .p (.iaddrA 4 1 (.t 11) (.c (.int .i64 1)))⟩,
      ⟨some 31, none, [], .r (.load1 (.t 30))⟩,
      ⟨some 32, none, [], .p (.iaddrA 16 1 (.t 5) (.t 29))⟩,
      ⟨none, none, [], .w (.store1 (.t 32) (.t 31))⟩]) (
  .seq (
    .region [
      ⟨some 33, none, [], .p (.mv (.t 3))⟩,
      ⟨some 34, none, [], .p (.iaddrA 4 1 (.t 11) (.c (.int .i64 2)))⟩,
      ⟨some 35, none, [], .r (.load1 (.t 34))⟩,
      ⟨some 36, none, [], .p (.iaddrA 16 1 (.t 5) (.t 33))⟩,
      ⟨none, none, [], .w (.store1 (.t 36) (.t 35))⟩]) (
  .seq (
    .region [
      ⟨some 37, none, [], .p (.mv (.t 4))⟩,
      ⟨some 38, none, [], .p (.iaddrA 4 1 (.t 11) (.c (.int .i64 3)))⟩,
      ⟨some 39, none, [], .r (.load1 (.t 38))⟩,
      ⟨some 40, none, [], .p (.iaddrA 16 1 (.t 5) (.t 37))⟩,
      ⟨none, none, [], .w (.store1 (.t 40) (.t 39))⟩]) (
  .seq (
    .region [
      ⟨some 41, none, [], .r (.loadN 16 (.t 5))⟩,
      ⟨none, none, [], .w (.storeN 16 (.t 10) (.t 41))⟩]) (
  .ret))))))),
  42, [Sum.inr (10, 16, true)]⟩

theorem c59 : cFunc Try.prog quiet Try.f59 [] = some s59 := by kernel_rfl

-- 60 calls []
abbrev k60_2 : List Nat := [0, 1, 5, 6, 7, 11]
abbrev a60_2 : List Nat := [0, 1, 5, 6]
abbrev e60_2 (v0 v1 v5 v6 v7 v11 : AV) : Env := [v0, v1, .dead, .dead, .dead, v5, v6, v7, .dead, .dead, .dead, v11, .dead, .dead, .dead, .dead, .dead, .dead, .dead, .dead, .dead, .dead, .dead, .dead, .dead, .dead, .dead, .dead, .dead, .dead, .dead, .dead, .dead, .dead, .dead, .dead, .dead, .dead, .dead, .dead, .dead, .dead, .dead, .dead, .dead, .dead, .dead, .dead, .dead]
abbrev x60_2 (v0 v1 v5 v6 : AV) : Env := [v0, v1, .dead, .dead, .dead, v5, v6, .dead, .dead, .dead, .dead, .dead, .dead, .dead, .dead, .dead, .dead, .dead, .dead, .dead, .dead, .dead, .dead, .dead, .dead, .dead, .dead, .dead, .dead, .dead, .dead, .dead, .dead, .dead, .dead, .dead, .dead, .dead, .dead, .dead, .dead, .dead, .dead, .dead, .dead, .dead, .dead, .dead, .dead]
def s60_b2 : SCode :=
  .seq (
    .seq (
      .region [
        ⟨some 37, none, [], .p (.mv (.t 11))⟩,
        ⟨some 38, none, [], .p (.bin .lss (.t 37) (.c (.int .i64 4)))⟩]) (
    .cond (.t 38) (
      .skip) (
      .exit 4))) (
  .seq (
    .block 5 (
      .region [
        ⟨some 41, none, [], .p (.mv (.t 5))⟩,
        ⟨some 42, none, [], .p (.mv (.t 11))⟩,
        ⟨some 43, none, [], .p (.iaddrA 4 1 (.t 7) (.t 42))⟩,
        ⟨some 44, none, [], .r (.load1 (.t 43))⟩,
        ⟨some 45, none, [], .a 72016 (.buildS 1 1 [byteAV 0] [(0, 1, .t 44)])⟩,
        ⟨some 46, none, [], .w (.append 72020 1 1 (.t 41) (.t 45))⟩,
        ⟨some 5, none, [], .p (.mv (.t 46))⟩])) (
  .region [
    ⟨some 39, none, [], .p (.mv (.t 11))⟩,
    ⟨some 40, none, [], .p (.bin .add (.t 39) (.c (.int .i64 1)))⟩,
    ⟨some 11, none, [], .p (.mv (.t 40))⟩]))

abbrev k60_1 : List Nat := [0, 1, 5, 6, 7, 8, 9]
abbrev a60_1 : List Nat := [0, 1, 5, 6, 7]
abbrev e60_1 (v0 v1 v5 v6 v7 v8 v9 : AV) : Env := [v0, v1, .dead, .dead, .dead, v5, v6, v7, v8, v9, .dead, .dead, .dead, .dead, .dead, .dead, .dead, .dead, .dead, .dead, .dead, .dead, .dead, .dead, .dead, .dead, .dead, .dead, .dead, .dead, .dead, .dead, .dead, .dead, .dead, .dead, .dead, .dead, .dead, .dead, .dead, .dead, .dead, .dead, .dead, .dead, .dead, .dead, .dead]
abbrev x60_1 (v0 v1 v5 v6 v7 : AV) : Env := [v0, v1, .dead, .dead, .dead, v5, v6, v7, .dead, .dead, .dead, .dead, .dead, .dead, .dead, .dead, .dead, .dead, .dead, .dead, .dead, .dead, .dead, .dead, .dead, .dead, .dead, .dead, .dead, .dead, .dead, .dead, .dead, .dead, .dead, .dead, .dead, .dead, .dead, .dead, .dead, .dead, .dead, .dead, .dead, .dead, .dead, .dead, .dead]
def s60_b1 : SCode :=
  .seq (
    .seq (
      .region [
        ⟨some 22, none, [], .p (.mv (.t 9))⟩,
        ⟨some 23, none, [], .p (.bin .lss (.t 22) (.c (.int .i64 4)))⟩]) (
    .cond (.t 23) (
      .skip) (
      .exit 2))) (
  .seq (
    .block 3 (
      .seq (
        .region [
          ⟨some 26, none, [], .p (.mv (.t 9))⟩,
          ⟨some 10, none, [], .p (.mv (.t 26))⟩]) (
      .seq (
        .seq (
          .region [
            ⟨some 27, none, [], .p (.mv (.t 1))⟩]) (
        .cond (.t 27) (
          .region [
            ⟨some 28, none, [], .p (.mv (.t 9))⟩,
            ⟨some 29, none, [], .p (.bin .sub (.c (.int .i64 3)) (.t 28))⟩,
            ⟨some 10, none, [], .p (.mv (.t 29))⟩]) (
          .skip))) (
      .seq (
        .region [
          ⟨some 30, none, [], .p (.mv (.t 10))⟩,
          ⟨some 31, none, [], .p (.mv (.t 8))⟩,
          ⟨some 32, none, [], .p (.bin .rem (.t 31) (.c (u32 256#32)))⟩,
          ⟨some 33, none, [], .p (.conv .u8 (.t 32))⟩,
          ⟨some 34, none, [], .p (.iaddrA 4 1 (.t 7) (.t 30))⟩,
          ⟨none, none, [], .w (.store1 (.t 34) (.t 33))⟩]) (
      .region [
        ⟨some 35, none, [], .p (.mv (.t 8))⟩,
        ⟨some 36, none, [], .p (.bin .quo (.t 35) (.c (u32 256#32)))⟩,
        ⟨some 8, none, [], .p (.mv (.t 36))⟩]))))) (
  .region [
    ⟨some 24, none, [], .p (.mv (.t 9))⟩,
    ⟨some 25, none, [], .p (.bin .add (.t 24) (.c (.int .i64 1)))⟩,
    ⟨some 9, none, [], .p (.mv (.t 25))⟩]))

abbrev k60_0 : List Nat := [0, 1, 5, 6]
abbrev a60_0 : List Nat := [5]
abbrev e60_0 (v0 v1 v5 v6 : AV) : Env := [v0, v1, .dead, .dead, .dead, v5, v6, .dead, .dead, .dead, .dead, .dead, .dead, .dead, .dead, .dead, .dead, .dead, .dead, .dead, .dead, .dead, .dead, .dead, .dead, .dead, .dead, .dead, .dead, .dead, .dead, .dead, .dead, .dead, .dead, .dead, .dead, .dead, .dead, .dead, .dead, .dead, .dead, .dead, .dead, .dead, .dead, .dead, .dead]
abbrev x60_0 (v5 : AV) : Env := [.dead, .dead, .dead, .dead, .dead, v5, .dead, .dead, .dead, .dead, .dead, .dead, .dead, .dead, .dead, .dead, .dead, .dead, .dead, .dead, .dead, .dead, .dead, .dead, .dead, .dead, .dead, .dead, .dead, .dead, .dead, .dead, .dead, .dead, .dead, .dead, .dead, .dead, .dead, .dead, .dead, .dead, .dead, .dead, .dead, .dead, .dead, .dead, .dead]
def s60_b0 : SCode :=
  .seq (
    .seq (
      .region [
        ⟨some 12, none, [], .p (.mv (.t 6))⟩,
        ⟨some 13, none, [], .p (.mv (.t 0))⟩,
        ⟨some 14, none, [], .p (.lenV true (.t 13))⟩,
        ⟨some 15, none, [], .p (.bin .lss (.t 12) (.t 14))⟩]) (
    .cond (.t 15) (
      .skip) (
      .exit 0))) (
  .seq (
    .block 1 (
      .seq (
        .region [
          ⟨some 7, none, [], .a 20000 (.alloc [byteAV 0, byteAV 0, byteAV 0, byteAV 0])⟩]) (
      .seq (
        .region [
          ⟨some 18, none, [], .p (.mv (.t 0))⟩,
          ⟨some 19, none, [], .p (.mv (.t 6))⟩,
          ⟨some 20, none, [], .p (.iaddrS 1 (.t 18) (.t 19))⟩,
          ⟨some 21, none, [], .r (.load1 (.t 20))⟩,
          ⟨some 8, none, [], .p (.mv (.t 21))⟩]) (
      .seq (
        .seq (
          .region [
            ⟨some 9, none, [], .p (.mv (.c (.int .i64 0)))⟩]) (
        .block 2 (
          .loop k60_1 a60_1 s60_b1))) (
      .seq (
        .region [
          ⟨some 11, none, [], .p (.mv (.c (.int .i64 0)))⟩]) (
      .block 4 (
        .loop k60_2 a60_2 s60_b2))))))) (
  .region [
    ⟨some 16, none, [], .p (.mv (.t 6))⟩,
    ⟨some 17, none, [], .p (.bin .add (.t 16) (.c (.int .i64 1)))⟩,
    ⟨some 6, none, [], .p (.mv (.t 17))⟩]))

def s60 : SFunc := ⟨
  .seq (
    .region [
      ⟨some 4, none, [], .p (.mv (.c (.str [])))⟩]) (
  .seq (
    .region [
      ⟨some 5, none, [], .p (.mv (.c (.slice none 0 0)))⟩]) (
  .seq (
    .seq (
      .region [
        ⟨some 6, none, [], .p (.mv (.c (.int .i64 0)))⟩]) (
    .block 0 (
      .loop k60_0 a60_0 s60_b0))) (
  .seq (
    .region [
      ⟨some 47, none, [], .p (.mv (.t 5))⟩,
      ⟨some 48, none, [], .r (.toStr (.t 47))⟩,
      ⟨some 4, none, [], .p (.mv (.t 48))⟩]) (
  .ret)))),
  49, [Sum.inl 4]⟩

theorem c60 : cFunc Try.prog quiet Try.f60 [[0, 1, 5, 6], [5], [0, 1, 5, 6, 7, 8, 9], [0, 1, 5, 6, 7], [0, 1, 5, 6, 7, 11], [0, 1, 5, 6]] = some s60 := by kernel_rfl

-- 61 calls []
abbrev k61_0 : List Nat := [0, 1, 5, 6, 7]
abbrev a61_0 : List Nat := [5]
abbrev e61_0 (v0 v1 v5 v6 v7 : AV) : Env := [v0, v1, .dead, .dead, .dead, v5, v6, v7, .dead, .dead, .dead, .dead, .dead, .dead, .dead, .dead, .dead, .dead, .dead, .dead, .dead, .dead, .dead, .dead, .dead, .dead, .dead]
abbrev x61_0 (v5 : AV) : Env := [.dead, .dead, .dead, .dead, .dead, v5, .dead, .dead, .dead, .dead, .dead, .dead, .dead, .dead, .dead, .dead, .dead, .dead, .dead, .dead, .dead, .dead, .dead, .dead, .dead, .dead, .dead]
def s61_b0 : SCode :=
  .seq (
    .seq (
      .region [
        ⟨some 8, none, [], .p (.mv (.t 7))⟩,
        ⟨some 9, none, [], .p (.bin .lss (.t 8) (.c (.int .i64 8)))⟩]) (
    .cond (.t 9) (
      .skip) (
      .exit 0))) (
  .seq (
    .block 1 (
      .seq (
        .seq (
          .region [
            ⟨some 12, none, [], .p (.mv (.t 0))⟩,
            ⟨some 13, none, [], .p (.bin .rem (.t 12) (.c (byteAV 2)))⟩,
            ⟨some 14, none, [], .p (.mv (.t 1))⟩,
            ⟨some 15, none, [], .p (.bin .rem (.t 14) (.c (byteAV 2)))⟩,
            ⟨some 16, none, [], .p (.bin .neq (.t 13) (.t 15))⟩]) (
        .cond (.t 16) (
          .region [
            ⟨some 17, none, [], .p (.mv (.t 5))⟩,
            ⟨some 18, none, [], .p (.mv (.t 6))⟩,
            ⟨some 19, none, [], .p (.bin .add (.t 17) (.t 18))⟩,
            ⟨some 5, none, [], .p (.mv (.t 19))⟩]) (
          .skip))) (
      .seq (
        .region [
          ⟨some 20, none, [], .p (.mv (.t 0))⟩,
          ⟨some 21, none, [], .p (.bin .quo (.t 20) (.c (byteAV 2)))⟩,
          ⟨some 0, none, [], .p (.mv (.t 21))⟩]) (
      .seq (
        .region [
          ⟨some 22, none, [], .p (.mv (.t 1))⟩,
          ⟨some 23, none, [], .p (.bin .quo (.t 22) (.c (byteAV 2)))⟩,
          ⟨some 1, none, [], .p (.mv (.t 23))⟩]) (
      .region [
        ⟨some 24, none, [], .p (.mv (.t 6))⟩,
        ⟨some 25, none, [], .p (.bin .mul (.c (byteAV 2)) (.t 24))⟩,
        ⟨some 6, none, [], .p (.mv (.t 25))⟩]))))) (
  .region [
    ⟨some 10, none, [], .p (.mv (.t 7))⟩,
    ⟨some 11, none, [], .p (.bin .add (.t 10) (.c (.int .i64 1)))⟩,
    ⟨some 7, none, [], .p (.mv (.t 11))⟩]))

def s61 : SFunc := ⟨
  .seq (
    .region [
      ⟨some 4, none, [], .p (.mv (.c (byteAV 0)))⟩]) (
  .seq (
    .region [
      ⟨some 5, none, [], .p (.mv (.c (byteAV 0)))⟩]) (
  .seq (
    .region [
      ⟨some 6, none, [], .p (.mv (.c (byteAV 1)))⟩]) (
  .seq (
    .seq (
      .region [
        ⟨some 7, none, [], .p (.mv (.c (.int .i64 0)))⟩]) (
    .block 0 (
      .loop k61_0 a61_0 s61_b0))) (
  .seq (
    .region [
      ⟨some 26, none, [], .p (.mv (.t 5))⟩,
      ⟨some 4, none, [], .p (.mv (.t 26))⟩]) (
  .ret))))),
  27, [Sum.inl 4]⟩

theorem c61 : cFunc Try.prog quiet Try.f61 [[0, 1, 5, 6, 7], [5]] = some s61 := by kernel_rfl

-- 62 calls [70]
abbrev k62_0 : List Nat := [0, 1, 2, 3, 16, 17]
abbrev a62_0 : List Nat := [0, 1, 2, 3]
abbrev e62_0 (v0 v1 v2 v3 v16 v17 : AV) : Env := [v0, v1, v2, v3, .dead, .dead, .dead, .dead, .dead, .dead, .dead, .dead, .dead, .dead, .dead, .dead, v16, v17, .dead, .dead, .dead, .dead, .dead, .dead, .dead, .dead, .dead, .dead, .dead, .dead, .dead, .dead, .dead, .dead, .dead, .dead, .dead, .dead, .dead, .dead, .dead, .dead, .dead]
abbrev x62_0 (v0 v1 v2 v3 : AV) : Env := [v0, v1, v2, v3, .dead, .dead, .dead, .dead, .dead, .dead, .dead, .dead, .dead, .dead, .dead, .dead, .dead, .dead, .dead, .dead, .dead, .dead, .dead, .dead, .dead, .dead, .dead, .dead, .dead, .dead, .dead, .dead, .dead, .dead, .dead, .dead, .dead, .dead, .dead, .dead, .dead, .dead, .dead]
def s62_b0 : SCode :=
  .seq (
    .region [
      ⟨some 18, none, [], .p (.bin .lss (.t 17) (.c (.int .i64 2)))⟩]) (
  .seq (
    .cond (.t 18) (
      .skip) (
      .exit 0)) (
  .seq (
    .block 1 (
      .seq (
        .region [
          ⟨some 19, none, [], .p (.idxAN 2 2 (.t 16) (.t 17))⟩,
          ⟨some 13, none, [], .a 12004 (.alloc [.int .i64 0, .int .i64 0])⟩,
          ⟨none, none, [], .w (.storeN 2 (.t 13) (.t 19))⟩]) (
      .seq (
        .region [
          ⟨some 20, none, [], .p (.mv (.t 0))⟩,
          ⟨some 21, none, [], .p (.mv (.t 1))⟩,
          ⟨some 22, none, [], .p (.bin .add (.t 20) (.t 21))⟩,
          ⟨some 0, none, [], .p (.mv (.t 22))⟩]) (
      .seq (
        .region [
          ⟨some 23, none, [], .p (.mv (.t 3))⟩,
          ⟨some 24, none, [], .p (.mv (.t 0))⟩,
          ⟨some 25, none, [], .p (.bin .xor (.t 23) (.t 24))⟩,
          ⟨some 26, none, [], .p (.iaddrA 2 1 (.t 13) (.c (.int .i64 0)))⟩,
          ⟨some 27, none, [], .r (.load1 (.t 26))⟩,
          ⟨some 28, none, [], .call 20020 4 true (.f 70) [.t 25, .t 27]⟩,
          ⟨some 3, none, [], .p (.mv (.t 28))⟩]) (
      .seq (
        .region [
          ⟨some 29, none, [], .p (.mv (.t 2))⟩,
          ⟨some 30, none, [], .p (.mv (.t 3))⟩,
          ⟨some 31, none, [], .p (.bin .add (.t 29) (.t 30))⟩,
          ⟨some 2, none, [], .p (.mv (.t 31))⟩]) (
      .region [
        ⟨some 32, none, [], .p (.mv (.t 1))⟩,
        ⟨some 33, none, [], .p (.mv (.t 2))⟩,
        ⟨some 34, none, [], .p (.bin .xor (.t 32) (.t 33))⟩,
        ⟨some 35, none, [], .p (.iaddrA 2 1 (.t 13) (.c (.int .i64 1)))⟩,
        ⟨some 36, none, [], .r (.load1 (.t 35))⟩,
        ⟨some 37, none, [], .call 28020 4 true (.f 70) [.t 34, .t 36]⟩,
        ⟨some 1, none, [], .p (.mv (.t 37))⟩])))))) (
  .region [
    ⟨some 38, none, [], .p (.bin .add (.t 17) (.c (.int .i64 1)))⟩,
    ⟨some 17, none, [], .p (.mv (.t 38))⟩])))

def s62 : SFunc := ⟨
  .seq (
    .region [
      ⟨some 8, none, [], .p (.mv (.c (u32 0#32)))⟩,
      ⟨some 9, none, [], .p (.mv (.c (u32 0#32)))⟩,
      ⟨some 10, none, [], .p (.mv (.c (u32 0#32)))⟩,
      ⟨some 11, none, [], .p (.mv (.c (u32 0#32)))⟩]) (
  .seq (
    .seq (
      .region [
        ⟨some 14, none, [], .p (.build [.int .i64 0, .int .i64 0] [(0, 1, .c (.int .i64 16)), (1, 1, .c (.int .i64 12))])⟩,
        ⟨some 15, none, [], .p (.build [.int .i64 0, .int .i64 0] [(0, 1, .c (.int .i64 8)), (1, 1, .c (.int .i64 7))])⟩,
        ⟨some 16, none, [], .p (.build [.int .i64 0, .int .i64 0, .int .i64 0, .int .i64 0] [(0, 2, .t 14), (2, 2, .t 15)])⟩,
        ⟨some 17, none, [], .p (.mv (.c (.int .i64 0)))⟩]) (
    .block 0 (
      .loop k62_0 a62_0 s62_b0))) (
  .seq (
    .region [
      ⟨some 39, none, [], .p (.mv (.t 0))⟩,
      ⟨some 40, none, [], .p (.mv (.t 1))⟩,
      ⟨some 41, none, [], .p (.mv (.t 2))⟩,
      ⟨some 42, none, [], .p (.mv (.t 3))⟩,
      ⟨some 8, none, [], .p (.mv (.t 39))⟩,
      ⟨some 9, none, [], .p (.mv (.t 40))⟩,
      ⟨some 10, none, [], .p (.mv (.t 41))⟩,
      ⟨some 11, none, [], .p (.mv (.t 42))⟩]) (
  .ret))),
  43, [Sum.inl 8, Sum.inl 9, Sum.inl 10, Sum.inl 11]⟩

theorem c62 : cFunc Try.prog quiet Try.f62 [[0, 1, 2, 3, 16, 17], [0, 1, 2, 3]] = some s62 := by kernel_rfl

-- 69 calls [76]
def s69 : SFunc := ⟨
  .seq (
    .region [
      ⟨some 8, none, [], .a 0 (.alloc [u32 0#32, u32 0#32, u32 0#32, u32 0#32])⟩]) (
  .seq (
    .region [
      ⟨some 9, none, [], .p (.mv (.t 0))⟩,
      ⟨some 10, none, [], .p (.mv (.t 1))⟩,
      ⟨some 11, none, [], .p (.bin .add (.t 9) (.t 10))⟩,
      ⟨some 0, none, [], .p (.mv (.t 11))⟩]) (
  .seq (
    .region [
      ⟨some 12, none, [], .p (.mv (.t 3))⟩,
      ⟨some 13, none, [], .p (.mv (.t 0))⟩,
      ⟨some 14, none, [], .p (.bin .xor (.t 12) (.t 13))⟩,
      ⟨some 15, none, [], .call 8012 4 true (.f 76) [.t 14, .c (.int .i64 16)]⟩,
      ⟨some 3, none, [], .p (.mv (.t 15))⟩]) (
  .seq (
    .region [
      ⟨some 16, none, [], .p (.mv (.t 2))⟩,
      ⟨some 17, none, [], .p (.mv (.t 3))⟩,
      ⟨some 18, none, [], .p (.bin .add (.t 16) (.t 17))⟩,
      ⟨some 2, none, [], .p (.mv (.t 18))⟩]) (
  .seq (
    .region [
      ⟨some 19, none, [], .p (.mv (.t 1))⟩,
      ⟨some 20, none, [], .p (.mv (.t 2))⟩,
      ⟨some 21, none, [], .p (.bin .xor (.t 19) (.t 20))⟩,
      ⟨some 22, none, [], .call 16012 4 true (.f 76) [.t 21, .c (.int .i64 12)]⟩,
      ⟨some 1, none, [], .p (.mv (.t 22))⟩]) (
  .seq (
    .region [
      ⟨some 23, none, [], .p (.mv (.t 0))⟩,
      ⟨some 24, none, [], .p (.mv (.t 1))⟩,
      ⟨some 25, none, [], .p (.bin .add (.t 23) (.t 24))⟩,
      ⟨some 0, none, [], .p (.mv (.t 25))⟩]) (
  .seq (
    .region [
      ⟨some 26, none, [], .p (.mv (.t 3))⟩,
      ⟨some 27, none, [], .p (.mv (.t 0))⟩,
      ⟨some 28, none, [], .p (.bin .xor (.t 26) (.t 27))⟩,
      ⟨some 29, none, [], .call 24012 4 true (.f 76) [.t 28, .c (.int .i64 8)]⟩,
      ⟨some 3, none, [], .p (.mv (.t 29))⟩]) (
  .seq (
    .region [
      ⟨some 30, none, [], .p (.mv (.t 2))⟩,
      ⟨some 31, none, [], .p (.mv (.t 3))⟩,
      ⟨some 32, none, [], .p (.bin .add (.t 30) (.t 31))⟩,
      ⟨some 2, none, [], .p (.mv (.t 32))⟩]) (
  .seq (
    .region [
      ⟨some 33, none, [], .p (.mv (.t 1))⟩,
      ⟨some 34, none, [], .p (.mv (.t 2))⟩,
      ⟨some 35, none, [], .p (.bin .xor (.t 33) (.t 34))⟩,
      ⟨some 36, none, [], .call 32012 4 true (.f 76) [.t 35, .c (.int .i64 7)]⟩,
      ⟨some 1, none, [], .p (.mv (.t 36))⟩]) (
  .seq (
    .region [
      ⟨some 37, none, [], .p (.mv (.t 0))⟩,
      ⟨some 38, none, [], .p (.mv (.t 1))⟩,
      ⟨some 39, none, [], .p (.mv (.t 2))⟩,
      ⟨some 40, none, [], .p (.mv (.t 3))⟩,
      ⟨some 41, none, [], .p (.build [u32 0#32, u32 0#32, u32 0#32, u32 0#32] [(0, 1, .t 37), (1, 1, .t 38), (2, 1, .t 39), (3, 1, .t 40)])⟩,
      ⟨none, none, [], .w (.storeN 4 (.t 8) (.t 41))⟩]) (
  .ret)))))))))),
  42, [Sum.inr (8, 4, true)]⟩

theorem c69 : cFunc Try.prog quiet Try.f69 [] = some s69 := by kernel_rfl

-- 70 calls []
def s70 : SFunc := ⟨
  .seq (
    .region [
      ⟨some 4, none, [], .p (.mv (.c (u32 0#32)))⟩]) (
  .seq (
    .region [
      ⟨some 6, none, [], .p (.mv (.t 1))⟩,
      ⟨some 7, none, [], .p (.conv .u64 (.t 6))⟩,
      ⟨some 8, none, [], .p (.bin .rem (.t 7) (.c (u64 32#64)))⟩,
      ⟨some 5, none, [], .p (.mv (.t 8))⟩]) (
  .seq (
    .region [
      ⟨some 9, none, [], .p (.mv (.t 0))⟩,
      ⟨some 10, none, [], .p (.mv (.t 5))⟩,
      ⟨some 11, none, [], .p (.bin .shl (.t 9) (.t 10))⟩,
      ⟨some 12, none, [], .p (.mv (.t 0))⟩,
      ⟨some 13, none, [], .p (.mv (.t 5))⟩,
      ⟨some 14, none, [], .p (.bin .sub (.c (u64 32#64)) (.t 13))⟩,
      ⟨some 15, none, [], .p (.bin .shr (.t 12) (.t 14))⟩,
      ⟨some 16, none, [], .p (.bin .or (.t 11) (.t 15))⟩,
      ⟨some 4, none, [], .p (.mv (.t 16))⟩]) (
  .ret))),
  17, [Sum.inl 4]⟩

theorem c70 : cFunc Try.prog quiet Try.f70 [] = some s70 := by kernel_rfl

-- 76 calls []
abbrev k76_0 : List Nat := [0, 5, 6]
abbrev a76_0 : List Nat := [0]
abbrev e76_0 (v0 v5 v6 : AV) : Env := [v0, .dead, .dead, .dead, .dead, v5, v6, .dead, .dead, .dead, .dead, .dead, .dead, .dead, .dead, .dead, .dead, .dead, .dead, .dead, .dead, .dead, .dead, .dead, .dead, .dead]
abbrev x76_0 (v0 : AV) : Env := [v0, .dead, .dead, .dead, .dead, .dead, .dead, .dead, .dead, .dead, .dead, .dead, .dead, .dead, .dead, .dead, .dead, .dead, .dead, .dead, .dead, .dead, .dead, .dead, .dead, .dead]
def s76_b0 : SCode :=
  .seq (
    .seq (
      .region [
        ⟨some 14, none, [], .p (.mv (.t 6))⟩,
        ⟨some 15, none, [], .p (.mv (.t 5))⟩,
        ⟨some 16, none, [], .p (.bin .lss (.t 14) (.t 15))⟩]) (
    .cond (.t 16) (
      .skip) (
      .exit 0))) (
  .seq (
    .block 1 (
      .seq (
        .region [
          ⟨some 19, none, [], .p (.mv (.t 0))⟩,
          ⟨some 20, none, [], .p (.bin .quo (.t 19) (.c (u32 2147483648#32)))⟩,
          ⟨some 7, none, [], .p (.mv (.t 20))⟩]) (
      .region [
        ⟨some 21, none, [], .p (.mv (.t 0))⟩,
        ⟨some 22, none, [], .p (.bin .mul (.t 21) (.c (u32 2#32)))⟩,
        ⟨some 23, none, [], .p (.mv (.t 7))⟩,
        ⟨some 24, none, [], .p (.bin .add (.t 22) (.t 23))⟩,
        ⟨some 0, none, [], .p (.mv (.t 24))⟩]))) (
  .region [
    ⟨some 17, none, [], .p (.mv (.t 6))⟩,
    ⟨some 18, none, [], .p (.bin .add (.t 17) (.c (.int .i64 1)))⟩,
    ⟨some 6, none, [], .p (.mv (.t 18))⟩]))

def s76 : SFunc := ⟨
  .seq (
    .region [
      ⟨some 4, none, [], .p (.mv (.c (u32 0#32)))⟩]) (
  .seq (
    .region [
      ⟨some 8, none, [], .p (.mv (.t 1))⟩,
      ⟨some 9, none, [], .p (.bin .rem (.t 8) (.c (.int .i64 32)))⟩,
      ⟨some 5, none, [], .p (.mv (.t 9))⟩]) (
  .seq (
    .seq (
      .region [
        ⟨some 10, none, [], .p (.mv (.t 5))⟩,
        ⟨some 11, none, [], .p (.bin .lss (.t 10) (.c (.int .i64 0)))⟩]) (
    .cond (.t 11) (
      .region [
        ⟨some 12, none, [], .p (.mv (.t 5))⟩,
        ⟨some 13, none, [], .p (.bin .add (.t 12) (.c (.int .i64 32)))⟩,
        ⟨some 5, none, [], .p (.mv (.t 13))⟩]) (
      .skip))) (
  .seq (
    .seq (
      .region [
        ⟨some 6, none, [], .p (.mv (.c (.int .i64 0)))⟩]) (
    .block 0 (
      .loop k76_0 a76_0 s76_b0))) (
  .seq (
    .region [
      ⟨some 25, none, [], .p (.mv (.t 0))⟩,
      ⟨some 4, none, [], .p (.mv (.t 25))⟩]) (
  .ret))))),
  26, [Sum.inl 4]⟩

theorem c76 : cFunc Try.prog quiet Try.f76 [[0, 5, 6], [0]] = some s76 := by kernel_rfl

def SP : SProg := tabO [(9, s9), (10, s10), (11, s11), (12, s12), (13, s13), (14, s14), (15, s15), (16, s16), (17, s17), (19, s19), (20, s20), (21, s21), (22, s22), (23, s23), (24, s24), (25, s25), (26, s26), (27, s27), (28, s28), (29, s29), (30, s30), (31, s31), (32, s32), (33, s33), (34, s34), (35, s35), (36, s36), (37, s37), (38, s38), (39, s39), (40, s40), (41, s41), (42, s42), (43, s43), (44, s44), (45, s45), (46, s46), (47, s47), (48, s48), (49, s49), (50, s50), (51, s51), (52, s52), (53, s53), (54, s54), (55, s55), (56, s56), (58, s58), (59, s59), (60, s60), (61, s61), (62, s62), (69, s69), (70, s70), (76, s76)] (repO 57)

theorem comp : Comp Try.prog SP := comp_ofO (by kernel_rfl) ⟨⟨quiet, _, _, Try.func9, c9⟩, ⟨quiet, _, _, Try.func10, c10⟩, ⟨quiet, _, _, Try.func11, c11⟩, ⟨quiet, _, _, Try.func12, c12⟩, ⟨quiet, _, _, Try.func13, c13⟩, ⟨quiet, _, _, Try.func14, c14⟩, ⟨quiet, _, _, Try.func15, c15⟩, ⟨quiet, _, _, Try.func16, c16⟩, ⟨quiet, _, _, Try.func17, c17⟩, ⟨quiet, _, _, Try.func19, c19⟩, ⟨quiet, _, _, Try.func20, c20⟩, ⟨quiet, _, _, Try.func21, c21⟩, ⟨quiet, _, _, Try.func22, c22⟩, ⟨quiet, _, _, Try.func23, c23⟩, ⟨quiet, _, _, Try.func24, c24⟩, ⟨quiet, _, _, Try.func25, c25⟩, ⟨quiet, _, _, Try.func26, c26⟩, ⟨quiet, _, _, Try.func27, c27⟩, ⟨quiet, _, _, Try.func28, c28⟩, ⟨quiet, _, _, Try.func29, c29⟩, ⟨quiet, _, _, Try.func30, c30⟩, ⟨quiet, _, _, Try.func31, c31⟩, ⟨quiet, _, _, Try.func32, c32⟩, ⟨quiet, _, _, Try.func33, c33⟩, ⟨quiet, _, _, Try.func34, c34⟩, ⟨quiet, _, _, Try.func35, c35⟩, ⟨quiet, _, _, Try.func36, c36⟩, ⟨quiet, _, _, Try.func37, c37⟩, ⟨quiet, _, _, Try.func38, c38⟩, ⟨quiet, _, _, Try.func39, c39⟩, ⟨quiet, _, _, Try.func40, c40⟩, ⟨quiet, _, _, Try.func41, c41⟩, ⟨quiet, _, _, Try.func42, c42⟩, ⟨quiet, _, _, Try.func43, c43⟩, ⟨quiet, _, _, Try.func44, c44⟩, ⟨quiet, _, _, Try.func45, c45⟩, ⟨quiet, _, _, Try.func46, c46⟩, ⟨quiet, _, _, Try.func47, c47⟩, ⟨quiet, _, _, Try.func48, c48⟩, ⟨quiet, _, _, Try.func49, c49⟩, ⟨quiet, _, _, Try.func50, c50⟩, ⟨quiet, _, _, Try.func51, c51⟩, ⟨quiet, _, _, Try.func52, c52⟩, ⟨quiet, _, _, Try.func53, c53⟩, ⟨quiet, _, _, Try.func54, c54⟩, ⟨quiet, _, _, Try.func55, c55⟩, ⟨quiet, _, _, Try.func56, c56⟩, ⟨quiet, _, _, Try.func58, c58⟩, ⟨quiet, _, _, Try.func59, c59⟩, ⟨quiet, _, _, Try.func60, c60⟩, ⟨quiet, _, _, Try.func61, c61⟩, ⟨quiet, _, _, Try.func62, c62⟩, ⟨quiet, _, _, Try.func69, c69⟩, ⟨quiet, _, _, Try.func70, c70⟩, ⟨quiet, _, _, Try.func76, c76⟩, trivial⟩ (repO_ok Try.rep)


end Go.Proofs.Ytpaagjjgmlmngaa
